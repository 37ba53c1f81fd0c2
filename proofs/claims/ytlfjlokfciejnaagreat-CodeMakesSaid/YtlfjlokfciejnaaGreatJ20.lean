/- Of ours. -/
import Derived.Test.YtlfjlokfciejnaaGreatJ00
import Derived.RangeFuncBox
import Derived.RangeFuncLeaves
import Derived.Shelf.Abstract
import Derived.WalkKit
import Derived.OwnWalkIn
import Derived.TacticsInMore
import Derived.LoopNIn
import Derived.LoopIn
import Derived.Shelf.SlIter.Collect
import Derived.Test.YtlfjlokfciejnaaGreatChecked
set_option maxRecDepth 20000
set_option maxHeartbeats 4000000
set_option linter.unusedVariables false
set_option linter.unusedSectionVars false
set_option linter.unusedSimpArgs false
set_option linter.defProp false
set_option linter.unnecessarySimpa false
open List renaming length->lN
open Bool renaming true->tT,false->oK
open Option renaming some->sS,none->nN
namespace Go.Gr
open Go.RowKit Go.Shelf Go.Proofs Go.Sort Go.Maps
variable {α:Type}
attribute [local go_sem] Oper.semAt_some
def yh(f:Nat->α)(k:Nat):List α:=(List.range k).map f
def zsD(f:Nat->α)(k:Nat):yh f (k+1)=yh f k++[f k]:=by simp[yh,List.range_succ]
def zxK(f:Nat->α)(k:Nat):(yh f k).length=k:=by simp[yh]
set_option maxRecDepth 100000 in
def zCb(F:Fence)(n:Nat)(h7:F.fn 166)(hro:F.round=nN)(hn:1<=n)(l Bs o n₀ b off len cap:Nat)(zs:sD)(_Y:len*16<=140737488351232)(hb:b<n₀)(J Jx:sD->World->Prop)
  (hY:∀pre x W,J pre W->lN pre<len->YieldAt F (n-1) Tryz.prog l #[encStr x] W λe W'=>
   (e=.returned (.bool tT)/\J (pre++[x]) W'/\Below n₀ W W')\/(e=.returned (.bool oK)/\Jx (pre++[x]) W'))
  (W:World) (hBs:W.cell? ⟨Bs,o,nN⟩=sS (.slice (sS ⟨b,off,nN⟩) len cap)) (hc:∀j,j<len->W.cell? ⟨b,off+j,nN⟩=sS (encStr (zs[j]?.getD []))) (h0:J [] W):
  CallsIn F n Tryz.prog 166 #[.func (.yield l) #[] #[],.pointer (sS ⟨Bs,o,nN⟩)] W λe W'=>(∃v,e=.returned v)/\
   ((∃ys,ys=yh (λj=>zs[j]?.getD []) len/\J ys W')\/(∃pre,(∃k,k<=len/\pre=yh (λj=>zs[j]?.getD []) k)/\Jx pre W')):=by
 refine callsIn_of_wp Tryz.func166 rfl h7 ?_ hro;simp only[Tryz.ntmps166,List.size_toArray,List.length_cons,List.length_nil,Nat.reduceAdd,Nat.reduceSub,Array.replicate_succ,Array.replicate_zero,List.push_toArray,List.append_toArray,List.nil_append,List.cons_append]
 gi_wp2
 gi_loopw [7] (λi wr=>∃k:Nat,k<=len/\i=.int .i64 k/\J (yh (λj=>zs[j]?.getD []) k) wr/\Below n₀ W wr)
  (λi _=>len-(intOf i).toNat)
 case atStart=>exact⟨0,eF _,rfl,h0,Below.refl _ _⟩
 case round=>
  obtain⟨k,hk,rfl,hJs,hnx⟩:=hrel;have hcx:k<len->wr.cell? ⟨b,off+k,nN⟩=sS (encStr (zs[k]?.getD [])):=λh=>(hnx.cell (p:=⟨b,off+k,nN⟩) hb).trans (hc k h);by_cases _k:k<len
  .let⟨fn,tmps,assign,body,hy,hR⟩:=hY _ (zs[k]?.getD []) wr hJs (by rw[zxK];exact _k);have hcx':=hcx _k
   gi_wp2
   apply hR.mono
   rintro e W3 (⟨rfl,hJ3,hk3⟩|⟨rfl,hJx3⟩)
   .gi_wp2
    go_roundw
    case rel=>exact⟨k+1,oM,oC,by rw[zsD];exact hJ3,hnx.trans hk3⟩
    case measure=>simp[intOf];omega
   .gi_wp2
    apply bodyPost_ret (results_none rfl _ _ _) rfl;exact⟨⟨_,rfl⟩,.inr ⟨_,⟨k+1,oM,(zsD _ _).symm⟩,hJx3⟩⟩
  .obtain rfl:k=len:=oM
   gi_wp2
   go_end0
   exact⟨⟨_,rfl⟩,.inl ⟨_,rfl,hJs⟩⟩
def zEt(zs:sD):yh (λj=>zs[j]?.getD []) (lN zs)=zs:=by
 apply List.ext_getElem
 .simp[yh]
 .intro i h1 h2;simp[yh,h2]
def zCc(zs:sD){k:Nat}(hk:k<=lN zs):yh (λj=>zs[j]?.getD []) k=zs.take k:=by
 apply List.ext_getElem
 .simp[yh,hk]
 .intro i h1 h2;have:i<lN zs:=by simp[yh]at h1;omega
  simp[yh,this]
def FQ(n₀:Nat)(W:World)(sv:Value)(zs:sD):Prop:=
(∃a cap,sv=.slice a 0 cap/\zs=[])\/∃b off cap,sv=.slice (sS ⟨b,off,nN⟩) (lN zs) cap/\b<n₀/\∀j,j<lN zs->W.cell? ⟨b,off+j,nN⟩=sS (encStr (zs[j]?.getD []))
def FQ.below{n₀:Nat}{A B:World}(h:Below n₀ A B){sv:Value}{zs:sD}:FQ n₀ A sv zs->FQ n₀ B sv zs
|.inl e=>.inl e
|.inr ⟨b,off,cap,e,hb,hc⟩=>.inr ⟨b,off,cap,e,hb,λj hj=>(h.cell (p:=⟨b,off+j,nN⟩) hb).trans (hc j hj)⟩
set_option maxRecDepth 100000 in
def ztN(F:Fence)(n:Nat)(h7:F.fn 166)(hro:F.round=nN)(l Bs o:Nat)(a:Option Addr)(cap:Nat)(J:sD->World->Prop)(W:World)(hBs:W.cell? ⟨Bs,o,nN⟩=sS (.slice a 0 cap))(h0:J [] W):
  CallsIn F n Tryz.prog 166 #[.func (.yield l) #[] #[],.pointer (sS ⟨Bs,o,nN⟩)] W λe W'=>(∃v,e=.returned v)/\J [] W':=by
 refine callsIn_of_wp Tryz.func166 rfl h7 ?_ hro;simp only[Tryz.ntmps166,List.size_toArray,List.length_cons,List.length_nil,Nat.reduceAdd,Nat.reduceSub,Array.replicate_succ,Array.replicate_zero,List.push_toArray,List.append_toArray,List.nil_append,List.cons_append]
 gi_wp2
 gi_loopw [7] (λi wr=>i=.int .i64 0/\J [] wr) (λ_ _=>0)
 case atStart=>exact⟨rfl,h0⟩
 case round=>
  obtain⟨rfl,hJs⟩:=hrel
  gi_wp2
  go_end0
  exact⟨⟨_,rfl⟩,hJs⟩
def zvR(F:Fence)(n:Nat)(h7:F.fn 166)(hro:F.round=nN)(hn:1<=n)(Bs o n₀:Nat)(sv:Value)(zs:sD)(_Y:lN zs*16<=140737488351232)(w:World)(hBs:Bs<w.heap.size)(hn₀:n₀<=w.heap.size)
  (hc:w.cell? ⟨Bs,o,nN⟩=sS sv) (hI:FQ n₀ w sv zs):
  SeqStopsK F n Tryz.prog 166 #[.pointer (sS ⟨Bs,o,nN⟩)] (λx:o9=>#[encStr x]) (Below n₀) (λys=>ys=zs) (λpre=>pre<+:zs) (lN zs) w:=λl J Jx W hW _ _ hY h0=>by
 have hc':=(hW.cell (p:=⟨Bs,o,nN⟩) hBs).trans hc;rcases hI.below (hW.mono hn₀)with⟨a,cap,rfl,rfl⟩|⟨b,off,cap,rfl,hb,_W⟩
 .exact(ztN F n h7 hro l Bs o a cap J W hc' h0).mono λe W' ⟨he,hj⟩=>⟨he,.inl ⟨_,rfl,hj⟩⟩
 .refine(zCb F n h7 hro hn l Bs o n₀ b off (lN zs) cap zs _Y hb J Jx hY W hc' _W h0).mono ?_
  rintro e W' ⟨he,⟨ys,rfl,hj⟩|⟨pre,⟨k,hk,rfl⟩,hj⟩⟩
  .exact⟨he,.inl ⟨_,zEt zs,hj⟩⟩
  .exact⟨he,.inr ⟨_,by rw[zCc zs hk];exact List.take_prefix _ _,hj⟩⟩
end Go.Gr
