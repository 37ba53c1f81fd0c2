/- Texts of ours, joined and written short by a program of ours. -/
import Derived.Test.YtnbgmeamdkggeaaGreatDoorJ05
import Derived.Sort.KeysCollected
import Derived.Lib.SlKeysI
set_option linter.unusedVariables false
set_option linter.unusedSimpArgs false
namespace Go.Abs
open List
open Go.Proofs (encStr)
open Go.RowKit (Below)
open Go.ChangeMaps Go.MapKept
open Go.WideElems (Fit rd rg rd_mk)
open Go.WideShapes (sorted_perm)
def zi0(l:List ByteArray):List ByteArray:=((l.map fun s=>s.data.toList).mergeSort fun x y=>decide (x<=y)).map fun x=>⟨x.toArray⟩
def zmc:Value->Option (DataW Unit × List MemPlace):=fun _=>some (.lit (.bool true),[])
theorem zqN{h:PH}{ρ:RM}{P:Program}{k:TypeId}:∀{es:List (D × AV)} {ms:List MapEntry} {ks:List ByteArray},es.map (·.1)=ks.map .str->RepM h ρ es ms->ms.map (·.key)=ks.map .string/\∀s,s∈ks->s.size<=zao
 |[],ms,ks,e,r=>by
  simp only[RepM]at r
  subst r
  have:ks=[]:=by simpa using e.symm
  subst this
  exact⟨rfl,fun s hs=>by cases hs⟩
 |x::es,[],ks,e,r=>by simp[RepM]at r
 |x::es,m::ms,[],e,r=>by simp at e
 |x::es,m::ms,s::ks,e,r=>by
  simp only[map_cons,List.cons.injEq]at e
  simp only[RepM]at r
  obtain⟨i1,i2⟩:=zqN (P:=P) (k:=k) e.2 r.2
  have:=r.1.1
  rw[e.1]at this
  simp only[RepD]at this
  refine⟨by simp[this.1,i1],fun t ht=>?_⟩
  cases List.mem_cons.1 ht with
  |inl e=>rw[e];exact this.2
  |inr e=>exact i2 t e
theorem zBb:zao<=maxLen:=by decide
theorem zBc{α:Type}{f:α->Value}(hf:∀a b,f a=f b->a=b){ms:List MapEntry}{ks:List α}(e:ms.map (·.key)=ks.map f)(hn:ks.Nodup):ms.Pairwise fun x y=>x.key≠y.key:=by
 have:(ms.map (·.key)).Pairwise (· ≠ ·):=by
  rw[e,pairwise_map]
  exact hn.imp fun h e=>h (hf _ _ e)
 rwa[pairwise_map]at this
theorem zGX{P:Program}{k:TypeId}(hk:P.underlying k=some .string){h:PH}{ρ:RM}{w:World}{p:Nat × Nat}{es:List (D × AV)}{ks:List ByteArray}(he:es.map (·.1)=ks.map .str)(hn:ks.Nodup)(hl:ks.length<=1073741824)(r:zaj h ρ p (.map es) w.heap):
  ∃D0:DataW Unit,w.ownsMap P k zmc p.1 ks.length D0/\Maps.size D0=ks.length/\(strKeys D0).Perm (ks.map fun s=>s.data.toList):=by
 obtain⟨ms,clock,g1,g2,g3,g4⟩:=r
 obtain⟨i1,i2⟩:=zqN (P:=P) (k:=k) he g2
 have hlen:ms.length=ks.length:=by simpa using congrArg length i1
 have key:∀x,x∈ms->∃s,s∈ks/\x.key=.string s:=fun x hx=>by
  have:x.key∈ms.map (·.key):=mem_map_of_mem hx
  rw[i1]at this
  obtain⟨s,hs,e⟩:=List.mem_map.1 this
  exact⟨s,hs,e.symm⟩
 have kof:∀s,s∈ks->keyOf P k (.string s)=some (.string s.data.toList):=fun s hs=>by
  simp[keyOf,hk,mapKey,show s.size<=maxLen from Nat.le_trans (i2 s hs) zBb]
 have rdOf:∀x,x∈ms->∀s,s∈ks->x.key=.string s->rd P k zmc x=some (.string s.data.toList,.lit (.bool true)):=fun x hx s hs e=>by
  cases x with
  |mk key val born=>
   simp only at e
   subst e
   exact rd_mk (yv:=(.lit (.bool true),[])) (kof s hs) rfl
 have hmax:(1073741824:Nat)<=maxLen:=by decide
 have F:Fit P k zmc ms.toArray clock:=by
  refine⟨by simp;omega,(stamped_iff _ _).2 ⟨by simpa using g3,by simpa using g4,by simpa using zBc (f:=.string) (fun a b e=>by injection e) i1 hn⟩,fun x hx=>?_⟩
  obtain⟨s,hs,e⟩:=key x (by simpa using hx)
  exact⟨_,rdOf x (by simpa using hx) s hs e⟩
 refine⟨.map ((ms.map (rg P k zmc)).foldr DataW.insert []),⟨ms.toArray,clock,g1,F,by simp[hlen],by simp⟩,?_,?_⟩
 ·simp[Maps.size,(sorted_perm _).length_eq,hlen]
 ·show((List.map (rg P k zmc) ms).foldr DataW.insert []|>.map fun p=>strOf p.1).Perm _
  refine((sorted_perm _).map _).trans ?_
  have this:(ms.map (rg P k zmc)).map (fun p=>strOf p.1)=ks.map fun s=>s.data.toList:=by
   rw[map_map]
   have e2:ms.map ((fun p:Lit × DataW Unit=>strOf p.1)∘rg P k zmc)=(ms.map (·.key)).map fun v=>match v with|.string s=>s.data.toList|_=>[]:=by
    rw[map_map]
    refine map_congr_left fun x hx=>?_
    obtain⟨s,hs,e⟩:=key x hx
    simp[WideElems.rg_of (rdOf x hx s hs e),strOf,e]
   rw[e2,i1,map_map]
   rfl
  rw[this]
theorem RepL.toE{h:PH}:∀{ds:List D} {vs:List Value},RepL h ds vs->RepE h 1 (ds.map fun d=>[d]) vs
 |[],vs,_=>by simp[RepE]
 |d::ds,[],r=>by simp[RepL]at r
 |d::ds,v::vs,r=>by
  simp only[RepL]at r
  simp only[map_cons,RepE,RepL,drop_succ_cons,drop_zero]
  exact⟨rfl,⟨r.1,trivial⟩,RepL.toE r.2⟩
theorem zEB{w w':World}{e:TypeId}{v:Value}{xs:List Value}{n:Nat}(hrow:w'.ownsRow w.heap.size e 1 v n xs){ds:List D}(hn:ds.length=n)(hl:n<=zao)(hr:∀h,RepL h ds xs){h:PH}(hp:∀B o,h B=some o->B<w.heap.size/\w'.heap[B]?=some o):
  ∃h':PH,h.le h'/\(∀B,B<w.heap.size->h' B=h B)/\(∀B o,h' B=some o->w'.heap[B]?=some o)/\RepD h' (.sl false 1 (ds.map fun d=>[d])) v:=by
 obtain⟨e1,e2⟩:=hrow
 rcases e2 with⟨rfl,rfl⟩|⟨g,cap,cur,rfl,hg,hh,c1,c2,c3,c4⟩
 ·have:ds=[]:=List.length_eq_zero_iff.1 hn
  subst this
  refine⟨h,PH.le_refl h,fun _ _=>rfl,fun B o e=>(hp B o e).2,?_⟩
  simp only[RepD,map_nil]
  exact⟨none,0,rfl,Nat.le_refl _,(fun h=>by cases h),Nat.zero_le _,(fun _=>⟨trivial,rfl⟩),(fun _ e=>by cases e),by simp[RepE]⟩
 ·have h0:h g=none:=by
   cases hq:h g with
   |none=>rfl
   |some o=>have:=(hp g o hq).1;omega
  have hle:h.le (upd h g (some (.cells cur e (0,0)))):=fun B o e=>by
   rw[zah _ _ (fun q=>by rw[q,h0]at e;cases e)];exact e
  refine⟨upd h g (some (.cells cur e (0,0))),hle,fun B hB=>zah _ _ (by omega),fun B o e=>?_,?_⟩
  ·by_cases q:B=g
   ·subst q;rw[zae]at e;cases e;exact hh
   ·rw[zah _ _ q]at e;exact(hp B o e).2
  ·simp only[RepD,length_map]
   refine⟨some ⟨g,0,none⟩,cap,by rw[hn],by omega,(fun h=>by cases h),by omega,(fun h=>by cases h),(fun q e _=>by cases e;rfl),?_⟩
   have:cellsAt (upd h g (some (.cells cur e (0,0)))) (some ⟨g,0,none⟩)=cur.toList:=by
    simp[cellsAt,hcells,zae]
   rw[this]
   have r1:=(hr (upd h g (some (.cells cur e (0,0))))).toE
   rw[<-c4]at r1
   have:=RepE.mono (PH.le_refl _) _ _ (cur.toList.drop (n*1)) r1
   rwa[take_append_drop]at this
theorem zwu{h:PH}:∀{l:List (List UInt8)},(∀x,x∈l->x.length<=zao)->RepL h ((l.map fun x=>(⟨x.toArray⟩:ByteArray)).map .str) (l.map encStr)
 |[],_=>by simp[RepL]
 |x::l,hx=>by
  simp only[map_cons,RepL,RepD]
  exact⟨⟨by first|rfl|trivial,by first|rfl|trivial,by simpa[ByteArray.size]using hx x (by simp)⟩,zwu fun y hy=>hx y (by simp[hy])⟩
theorem MCall.row{P:Program}{f:FuncId}{args:List AV}{bs:List Blk}{ds:List D}(hc:callee P f=true)(h1:∀i,i<bs.length->hpOf bs i≠.non)(h2:∀b,b∈bs->b.lv (live bs)=true)(hl:ds.length<=zao)
  (H:∀(h:PH) (ρ:RM) (w:World) (argsC:List Value),HRel h ρ (hpOf bs) w.heap->zad h ρ args argsC->
   Calls P f argsC.toArray w fun e w'=>∃(v:Value) (xs:List Value) (t:TypeId),e=.returned v/\(∀h,RepL h ds xs)/\w'.ownsRow w.heap.size t 1 v ds.length xs/\Below w.heap.size w w'):
  MCall P f args bs (.c (.d (.sl false 1 (ds.map fun d=>[d])))) bs:=by
 refine⟨hc,Nat.le_refl _,h1,rfl,h2,fun h ρ w argsC K _ _ r=>?_⟩
 refine(H h ρ w argsC K r).mono fun e w' q=>?_
 obtain⟨v,xs,t,e1,e2,e3,e4⟩:=q
 obtain⟨h',q1,q2,q3,q4⟩:=zEB e3 rfl hl e2 (h:=h) fun B o e=>⟨K.lt e,by rw[e4.block B (K.lt e)];exact K.pers B o e⟩
 refine⟨v,h',ρ,e1,⟨q1,fun B hB _=>q2 B hB,e4.size,fun B hB _=>e4.block B hB,fun b p hp hr=>.inr ⟨b,p,hp,hr,rfl⟩⟩,K.grow q1 q3 (fun B hB _=>⟨e4.block B hB,q2 B hB⟩),⟨e4.os,e4.tape,e4.output⟩,?_,fun _ _=>rfl⟩
 simp only[RepV,RepC]
 exact q4
end Go.Abs
