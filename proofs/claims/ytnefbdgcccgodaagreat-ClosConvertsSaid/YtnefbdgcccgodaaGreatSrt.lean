/- Texts of ours, joined and written short by a program of ours. -/
import Derived.Test.YtnefbdgcccgodaaGreatJ06
import Derived.Sort.KeysCollected
import Derived.Lib.SlKeysI
set_option linter.unusedVariables false
set_option linter.unusedSimpArgs false
namespace Go.Abs
open Go.Proofs (encStr)
open Go.RowKit (Below)
open Go.ChangeMaps Go.MapKept
open Go.WideElems (Fit rd rg rd_mk)
open Go.WideShapes (sorted_perm)
def zeW(l:List ByteArray):List ByteArray:=((l.map fun s=>s.data.toList).mergeSort fun x y=>decide (x<=y)).map fun x=>⟨x.toArray⟩
def zfF(l:List Int):List Int:=l.mergeSort fun x y=>decide (x<=y)
def zd9:Value->Option (DataW Unit × List MemPlace):=fun _=>some (.lit (.bool true),[])
theorem zh1{h:PH}{ρ:RM}:∀{es:List (D × AV)} {ms:List MapEntry} {ks:List Int},es.map (·.1)=ks.map (.int .i64)->RepM h ρ es ms->ms.map (·.key)=ks.map (.int .i64)/\∀s,s∈ks->IntKind.i64.min<=s/\s<=IntKind.i64.max
 |[],ms,ks,e,r=>by
  simp only[RepM]at r
  subst r
  have:ks=[]:=by simpa using e.symm
  subst this
  exact⟨rfl,fun s hs=>by cases hs⟩
 |x::es,[],ks,e,r=>by simp[RepM]at r
 |x::es,m::ms,[],e,r=>by simp at e
 |x::es,m::ms,s::ks,e,r=>by
  simp only[List.map_cons,List.cons.injEq]at e
  simp only[RepM]at r
  obtain⟨i1,i2⟩:=zh1 e.2 r.2
  have:=r.1.1
  rw[e.1]at this
  simp only[RepD]at this
  refine⟨by simp[this.1,i1],fun t ht=>?_⟩
  cases List.mem_cons.1 ht with
  |inl e=>rw[e];exact this.2
  |inr e=>exact i2 t e
theorem zuB{α:Type}{f:α->Value}(hf:∀a b,f a=f b->a=b){ms:List MapEntry}{ks:List α}(e:ms.map (·.key)=ks.map f)(hn:ks.Nodup):ms.Pairwise fun x y=>x.key≠y.key:=by
 have:(ms.map (·.key)).Pairwise (· ≠ ·):=by
  rw[e,List.pairwise_map]
  exact hn.imp fun h e=>h (hf _ _ e)
 rwa[List.pairwise_map]at this
theorem zAg{P:Program}{k:TypeId}(hk:P.underlying k=some (.int .i64)){h:PH}{ρ:RM}{w:World}{p:Nat × Nat}{es:List (D × AV)}{ks:List Int}(he:es.map (·.1)=ks.map (.int .i64))(hn:ks.Nodup)(hl:ks.length<=1073741824)(r:zaC h ρ p (.map es) w.heap):
  ∃D0:DataW Unit,w.ownsMap P k zd9 p.1 ks.length D0/\Maps.size D0=ks.length/\(intKeys D0).Perm ks:=by
 obtain⟨ms,clock,g1,g2,g3,g4⟩:=r
 obtain⟨i1,i2⟩:=zh1 he g2
 have hlen:ms.length=ks.length:=by simpa using congrArg List.length i1
 have key:∀x,x∈ms->∃s,s∈ks/\x.key=.int .i64 s:=fun x hx=>by
  have:x.key∈ms.map (·.key):=List.mem_map_of_mem hx
  rw[i1]at this
  obtain⟨s,hs,e⟩:=List.mem_map.1 this
  exact⟨s,hs,e.symm⟩
 have kof:∀s,s∈ks->keyOf P k (.int .i64 s)=some (.int .i64 s):=fun s hs=>by
  have h1:=i2 s hs
  rw[zsp,zsq]at h1
  simp[keyOf,hk,mapKey,Lit.wf,zsp,zsq,h1]
 have rdOf:∀x,x∈ms->∀s,s∈ks->x.key=.int .i64 s->rd P k zd9 x=some (.int .i64 s,.lit (.bool true)):=fun x hx s hs e=>by
  cases x with
  |mk key val born=>
   simp only at e
   subst e
   exact rd_mk (yv:=(.lit (.bool true),[])) (kof s hs) rfl
 have hmax:(1073741824:Nat)<=maxLen:=by decide
 have F:Fit P k zd9 ms.toArray clock:=by
  refine⟨by simp;omega,(stamped_iff _ _).2 ⟨by simpa using g3,by simpa using g4,by simpa using zuB (f:=.int .i64) (fun a b e=>by injection e) i1 hn⟩,fun x hx=>?_⟩
  obtain⟨s,hs,e⟩:=key x (by simpa using hx)
  exact⟨_,rdOf x (by simpa using hx) s hs e⟩
 refine⟨.map ((ms.map (rg P k zd9)).foldr DataW.insert []),⟨ms.toArray,clock,g1,F,by simp[hlen],by simp⟩,?_,?_⟩
 ·simp[Maps.size,(sorted_perm _).length_eq,hlen]
 ·show((List.map (rg P k zd9) ms).foldr DataW.insert []|>.map fun p=>intOf p.1).Perm _
  refine((sorted_perm _).map _).trans ?_
  have:(ms.map (rg P k zd9)).map (fun p=>intOf p.1)=ks:=by
   rw[List.map_map]
   have e2:ms.map ((fun p:Lit × DataW Unit=>intOf p.1)∘rg P k zd9)=(ms.map (·.key)).map fun v=>match v with|.int _ s=>s|_=>0:=by
    rw[List.map_map]
    refine List.map_congr_left fun x hx=>?_
    obtain⟨s,hs,e⟩:=key x hx
    simp[WideElems.rg_of (rdOf x hx s hs e),intOf,e]
   rw[e2,i1,List.map_map]
   exact List.map_id ks
  rw[this]
theorem RepL.toE{h:PH}:∀{ds:List D} {vs:List Value},RepL h ds vs->RepE h 1 (ds.map fun d=>[d]) vs
 |[],vs,_=>by simp[RepE]
 |d::ds,[],r=>by simp[RepL]at r
 |d::ds,v::vs,r=>by
  simp only[RepL]at r
  simp only[List.map_cons,RepE,RepL,List.drop_succ_cons,List.drop_zero]
  exact⟨rfl,⟨r.1,trivial⟩,RepL.toE r.2⟩
theorem zyE{w w':World}{e:TypeId}{v:Value}{xs:List Value}{n:Nat}(hrow:w'.ownsRow w.heap.size e 1 v n xs){ds:List D}(hn:ds.length=n)(hl:n<=zah)(hr:∀h,RepL h ds xs){h:PH}(hp:∀B o,h B=some o->B<w.heap.size/\w'.heap[B]?=some o):
  ∃h':PH,h.le h'/\(∀B,B<w.heap.size->h' B=h B)/\(∀B o,h' B=some o->w'.heap[B]?=some o)/\RepD h' (.sl false 1 (ds.map fun d=>[d])) v:=by
 obtain⟨e1,e2⟩:=hrow
 rcases e2 with⟨rfl,rfl⟩|⟨g,cap,cur,rfl,hg,hh,c1,c2,c3,c4⟩
 ·have:ds=[]:=List.length_eq_zero_iff.1 hn
  subst this
  refine⟨h,PH.le_refl h,fun _ _=>rfl,fun B o e=>(hp B o e).2,?_⟩
  simp only[RepD,List.map_nil]
  exact⟨none,0,rfl,Nat.le_refl _,(fun h=>by cases h),Nat.zero_le _,(fun _=>⟨trivial,rfl⟩),(fun _ e=>by cases e),by simp[RepE]⟩
 ·have h0:h g=none:=by
   cases hq:h g with
   |none=>rfl
   |some o=>have:=(hp g o hq).1;omega
  have hle:h.le (upd h g (some (.cells cur e (0,0)))):=fun B o e=>by
   rw[upd_ne _ _ (fun q=>by rw[q,h0]at e;cases e)];exact e
  refine⟨upd h g (some (.cells cur e (0,0))),hle,fun B hB=>upd_ne _ _ (by omega),fun B o e=>?_,?_⟩
  ·by_cases q:B=g
   ·subst q;rw[upd_same]at e;cases e;exact hh
   ·rw[upd_ne _ _ q]at e;exact(hp B o e).2
  ·simp only[RepD,List.length_map]
   refine⟨some ⟨g,0,none⟩,cap,by rw[hn],by omega,(fun h=>by cases h),by omega,(fun h=>by cases h),(fun q e _=>by cases e;rfl),?_⟩
   have:cellsAt (upd h g (some (.cells cur e (0,0)))) (some ⟨g,0,none⟩)=cur.toList:=by
    simp[cellsAt,hcells,upd_same]
   rw[this]
   have r1:=(hr (upd h g (some (.cells cur e (0,0))))).toE
   rw[<-c4]at r1
   have:=RepE.mono (PH.le_refl _) _ _ (cur.toList.drop (n*1)) r1
   rwa[List.take_append_drop]at this
theorem zpp{h:PH}:∀{l:List Int},(∀x,x∈l->IntKind.i64.min<=x/\x<=IntKind.i64.max)->RepL h (l.map (.int .i64)) (l.map encZ)
 |[],_=>by simp[RepL]
 |x::l,hx=>by
  simp only[List.map_cons,RepL,RepD]
  exact⟨⟨by first|rfl|trivial,by first|rfl|trivial,hx x (by simp)⟩,zpp fun y hy=>hx y (by simp[hy])⟩
theorem MCall.row{P:Program}{f:FuncId}{args:List AV}{bs:List Blk}{ds:List D}(hc:callee P f=true)(h1:∀i,i<bs.length->hpOf bs i≠.non)(h2:∀b,b∈bs->b.lv (live bs)=true)(hl:ds.length<=zah)
  (H:∀(h:PH) (ρ:RM) (w:World) (argsC:List Value),HRel h ρ (hpOf bs) w.heap->zat h ρ args argsC->
   Calls P f argsC.toArray w fun e w'=>∃(v:Value) (xs:List Value) (t:TypeId),e=.returned v/\(∀h,RepL h ds xs)/\w'.ownsRow w.heap.size t 1 v ds.length xs/\Below w.heap.size w w'):
  MCall P f args bs (.c (.d (.sl false 1 (ds.map fun d=>[d])))) bs:=by
 refine⟨hc,Nat.le_refl _,h1,rfl,h2,fun h ρ w argsC K _ r=>?_⟩
 refine(H h ρ w argsC K r).mono fun e w' q=>?_
 obtain⟨v,xs,t,e1,e2,e3,e4⟩:=q
 obtain⟨h',q1,q2,q3,q4⟩:=zyE e3 rfl hl e2 (h:=h) fun B o e=>⟨K.lt e,by rw[e4.block B (K.lt e)];exact K.pers B o e⟩
 refine⟨v,h',ρ,e1,⟨q1,fun B hB _=>q2 B hB,e4.size,fun B hB _=>e4.block B hB,fun b p hp hr=>.inr ⟨b,p,hp,hr,rfl⟩⟩,K.grow q1 q3 (fun B hB _=>⟨e4.block B hB,q2 B hB⟩),⟨e4.os,e4.tape,e4.output⟩,?_,fun _ _=>rfl⟩
 simp only[RepV,RepC]
 exact q4
end Go.Abs
