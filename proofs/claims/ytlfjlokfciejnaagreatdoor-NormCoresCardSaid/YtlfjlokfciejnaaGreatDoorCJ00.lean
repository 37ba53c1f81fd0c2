/- Texts of ours, joined and written short by a program of ours. -/
import Derived.Orders
import GoSem.Dispatch
import Derived.Lib.Bytealg
import Derived.WideShapes
set_option maxRecDepth 20000
set_option maxHeartbeats 4000000
set_option linter.unusedVariables false
set_option linter.unusedSimpArgs false
namespace Go
abbrev aA:=@List.getElem?_eq_getElem
abbrev aB:=@if_neg
abbrev aC:=@if_pos
abbrev aD:=@List.take_of_length_le
abbrev aF:=@List.drop_eq_getElem_cons
abbrev aG:=@Bool.and_eq_true
abbrev aH:=@List.getD_eq_getElem?_getD
abbrev aI:=@decide_eq_true_eq
abbrev aJ:=@List.take_succ_eq_append_getElem
abbrev aK:=@List.mem_singleton
abbrev aL:=@Bool.not_eq_true
abbrev aM:=@List.mem_append
abbrev aN:=@List.mem_cons
abbrev aO:=@List.drop_length
abbrev aP:=@List.getElem_mem
abbrev aQ:=@Nat.le_refl
abbrev aR:=@Eq.refl
abbrev aS:=@List.getElem?_eq_none
abbrev aT:=@List.length_eq_zero_iff
abbrev aU:=@List.length_map
abbrev aV:=@Option.map_eq_some_iff
abbrev aW:=@Nat.lt_or_ge
abbrev aX:=@List.length_append
abbrev aY:=@beq_iff_eq
abbrev aZ:=@Array.getD_eq_getD_getElem?
abbrev aa:=@List.mem_map
abbrev ae:=@List.mem_of_getElem?
abbrev af:=@Option.some.injEq
abbrev ah:=@List.all_eq_true
abbrev ai:=@Bool.false_eq_true
abbrev aj:=@Array.getElem?_eq_none
abbrev ak:=@Nat.le_trans
abbrev au:=@Array.toArray_toList
abbrev ax:=@ByteArray.size_append
abbrev ay:=@List.getElem?_drop
abbrev az:=@Int.toNat_natCast
abbrev bB:=@List.mem_filter
abbrev bC:=@Nat.add_mul
abbrev bD:=@Bool.not_eq_true'
abbrev bE:=@Classical.byContradiction
abbrev bF:=@List.drop_of_length_le
abbrev bG:=@List.take_length
abbrev bH:=@List.length_take
abbrev bI:=@Option.isSome_iff_exists
abbrev bJ:=@Array.getElem?_eq_getElem
abbrev bK:=@decide_eq_false
abbrev bL:=@List.pairwise_cons
abbrev bM:=@decide_eq_false_iff_not
abbrev bN:=@List.append_nil
abbrev bO:=@List.drop_drop
abbrev bP:=@Option.some.inj
abbrev bQ:=@List.length_filter_le
abbrev bR:=@Nat.zero_mul
abbrev bS:=@Array.getElem?_setIfInBounds_ne
abbrev bU:=@List.pairwise_append
abbrev bV:=@Prod.mk.injEq
abbrev bW:=@List.getElem_of_mem
abbrev bX:=@List.nodup_append
abbrev bY:=@List.getElem?_append_right
abbrev bZ:=@List.pairwise_iff_getElem
abbrev bf:=@List.nodup_cons
abbrev bg:=@List.map_congr_left
abbrev bi:=@List.mem_of_mem_take
abbrev bn:=@Nat.mul_le_mul_right
abbrev bu:=@Nat.one_mul
abbrev bv:=@List.map_map
abbrev bz:=@decide_eq_true
abbrev cB:=@List.filter_append
abbrev cO:=@List.not_mem_nil
abbrev cZ:=@Nat.add_sub_cancel_left
abbrev cu:=@List.ext_getElem?
abbrev cz:=@Array.length_toList
abbrev dA:=@List.append_assoc
abbrev dC:=@List.take_append_drop
abbrev dD:=@Array.ext'
abbrev dE:=@Array.getElem?_setIfInBounds_self
abbrev dF:=@List.getElem?_append_left
abbrev dG:=@Bool.or_eq_true
abbrev dH:=@Nat.add_comm
abbrev dI:=@List.range_eq_range'
abbrev dJ:=@Array.getElem?_replicate
abbrev dK:=@Option.bind_eq_some_iff
abbrev dL:=@Nat.zero_le
abbrev dM:=@List.length_drop
abbrev dN:=@List.drop_append_of_le_length
abbrev dO:=@Bool.eq_iff_iff
abbrev dP:=@congrArg
abbrev dQ:=@List.mem_of_mem_drop
abbrev dR:=@List.contains_iff_mem
abbrev dS:=@List.filter_cons
abbrev dU:=@not_or
abbrev dV:=@List.mem_or_eq_of_mem_set
abbrev dW:=@List.map_append
abbrev dX:=@List.any_eq_false
abbrev dY:=@List.range'_succ
abbrev dZ:=@Array.mapM_eq_mapM_toList
abbrev d9:=@Bool.false_or
abbrev df:=@UInt8.toNat_inj
abbrev dh:=@List.cons.injEq
abbrev di:=@List.forall_mem_cons
abbrev dx:=@Nat.lt_of_lt_of_le
abbrev dz:=@List.getElem?_take
abbrev eB:=@Array.empty_append
abbrev eF:=@Bool.true_or
abbrev eG:=@List.drop_eq_nil_of_le
abbrev eH:=@List.filter_eq_nil_iff
abbrev eO:=@Nat.min_self
abbrev eP:=@Nat.sub_zero
abbrev eQ:=@Array.getElem?_toList
abbrev eT:=@List.getElem?_toArray
abbrev eU:=@List.cons_lt_cons_iff
abbrev eY:=@Nat.le_add_right
abbrev eZ:=@List.mem_flatMap
abbrev fA:=@List.map_set
abbrev fB:=@List.mem_of_find?_eq_some
abbrev fC:=@or_false
abbrev fD:=@List.mem_map_of_mem
abbrev fE:=@UInt8.lt_irrefl
abbrev fF:=@Int.tmod_nonneg
abbrev fG:=@List.mem_append_left
abbrev fH:=@List.getD_cons_zero
abbrev fI:=ByteArray
def Value.one1:Value->Bool
|.agg _|.tuple _=>false
|_=>true
end Go
namespace Go.Abs
abbrev PH:=Nat->Option Obj
abbrev RM:=Nat->Option (Nat × Nat)
inductive D where
|any
|int (k:IntKind) (n:Int)
|bool (b:Bool)
|str (s:fI)
|sc (v:Value)
|sl (x:Bool) (s:Nat) (es:List (List D))
|rp (cs:List D) (off:Nat)
|fn (f:Fn) (caps:List D)
|ifc (t:TypeId) (ag:Bool) (cs:List D)
inductive DV where
|one (x:D)
|agg (cs:List D)
|tup (vs:List DV)
inductive AC where
|d (x:D)
|ptr (b off:Nat)
|ept (s b i off:Nat)
|msl (s b off len:Nat)
|map (b:Nat)
|fn (f:Fn) (caps:List AC)
|op (r:Value->Prop)
inductive AV where
|c (x:AC)
|ag (cs:List AC)
|tup (vs:List AV)
inductive Blk where
|non
|dead
|box (cs:List AC)
|arr (s:Nat) (es:List (List AC))
|map (es:List (D × AV))
|pin (t:Nat × Nat) (b:Nat)
abbrev Hp:=Nat->Blk
def hcells(h:PH)(B:Nat):List Value:=
 match h B with
 |some (.cells c _ _)=>c.toList
 |_=>[]
def cellsAt(h:PH):Option Addr->List Value
|some p=>(hcells h p.block).drop p.off
|none=>[]
def zah:Nat:=4611686018427387904
mutual
def RepD(h:PH):D->Value->Prop
|.any,_=>True
|.int k n,v=>v=.int k n/\k.min<=n/\n<=k.max
|.bool b,v=>v=.bool b
|.str s,v=>v=.string s/\s.size<=zah
|.sc u,v=>v=u
| .sl x s es,v=>∃a cap,v=.slice a es.length cap/\es.length<=cap/\(x=true->cap=es.length)/\es.length<=zah/\
  (a=none->es=[]/\cap=0)/\(∀p,a=some p->0<cap->p.spot=none)/\RepE h s es (cellsAt h a)
|.rp cs off,v=>∃B o,v=.pointer (some ⟨B,o+off,none⟩)/\RepL h cs ((hcells h B).drop o)
|.fn f caps,v=>∃vs:List Value,v=.func f #[] vs.toArray/\vs.length=caps.length/\RepL h caps vs
|.ifc t ag cs,v=>∃vs:List Value,v=.iface t (if ag then .agg vs.toArray else vs.headD undef)/\vs.length=cs.length/\(ag=false->cs.length=1)/\RepL h cs vs
def RepL(h:PH):List D->List Value->Prop
|[],_=>True
|_::_,[]=>False
|d::ds,v::vs=>(v.one1=true/\RepD h d v)/\RepL h ds vs
def RepE(h:PH)(s:Nat):List (List D)->List Value->Prop
|[],_=>True
|e::es,vs=>e.length=s/\RepL h e vs/\RepE h s es (vs.drop s)
end
def PH.le(h h':PH):Prop:=∀B o,h B=some o->h' B=some o
theorem PH.le_refl(h:PH):h.le h:=λ_ _ e=>e
theorem PH.le_trans{a b c:PH}(h:a.le b)(k:b.le c):a.le c:=λB o e=>k B o (h B o e)
theorem zls{h h':PH}(hle:h.le h')(B:Nat):∃t,hcells h' B=hcells h B++t:=by
 unfold hcells;cases e:h B with
 |none=>exact⟨_,by simp;rfl⟩
 |some o=>rw[hle B o e];exact⟨[],by simp⟩
theorem R3{h h':PH}(hle:h.le h')(B n:Nat):∃t,(hcells h' B).drop n=(hcells h B).drop n++t:=by
 obtain⟨t,ht⟩:=zls hle B;rw[ht,List.drop_append];exact⟨_,rfl⟩
theorem zkL{h h':PH}(hle:h.le h')(a:Option Addr):∃t,cellsAt h' a=cellsAt h a++t:=by
 cases a with
 |none=>exact⟨[],rfl⟩
 |some p=>exact R3 hle _ _
mutual
theorem RepD.mono{h h':PH}(hle:h.le h'):∀(d:D) (v:Value),RepD h d v->RepD h' d v
|.any,_,_=>by simp[RepD]
|.int k n,_,r=>by simpa[RepD]using r
|.bool b,_,r=>by simpa[RepD]using r
|.str s,_,r=>by simpa[RepD]using r
|.sc u,_,r=>by simpa[RepD]using r
|.sl x s es,v,r=>by
 simp only[RepD]at r⊢;obtain⟨a,cap,h1,h2,h3,h4,h5,h6,h7⟩:=r;refine⟨a,cap,h1,h2,h3,h4,h5,h6,?_⟩;obtain⟨t,ht⟩:=zkL hle a;rw[ht];exact RepE.mono hle es _ t h7
|.rp cs off,v,r=>by
 simp only[RepD]at r⊢;obtain⟨B,o,h1,h2⟩:=r;refine⟨B,o,h1,?_⟩;obtain⟨t,ht⟩:=R3 hle B o;rw[ht];exact RepL.mono hle cs _ t h2
|.fn f caps,v,r=>by
 simp only[RepD]at r⊢;obtain⟨vs,h1,h2,h3⟩:=r;refine⟨vs,h1,h2,?_⟩;simpa using RepL.mono hle caps vs [] h3
|.ifc t ag cs,v,r=>by
 simp only[RepD]at r⊢;obtain⟨vs,h1,h2,h3,h4⟩:=r;refine⟨vs,h1,h2,h3,?_⟩;simpa using RepL.mono hle cs vs [] h4
theorem RepL.mono{h h':PH}(hle:h.le h'):∀(ds:List D) (vs t:List Value),RepL h ds vs->RepL h' ds (vs++t)
|[],_,_,_=>by simp[RepL]
|d::ds,[],_,r=>by simp[RepL]at r
|d::ds,v::vs,t,r=>by
 simp only[RepL,List.cons_append]at r⊢;exact⟨⟨r.1.1,RepD.mono hle d v r.1.2⟩,RepL.mono hle ds vs t r.2⟩
theorem RepE.mono{h h':PH}(hle:h.le h'){s:Nat}:∀(es:List (List D)) (vs t:List Value),RepE h s es vs->RepE h' s es (vs++t)
|[],_,_,_=>by simp[RepE]
|e::es,vs,t,r=>by
 simp only[RepE]at r⊢;refine⟨r.1,RepL.mono hle e vs t r.2.1,?_⟩;rw[List.drop_append];exact RepE.mono hle es _ _ r.2.2
end
theorem RepL.mono'{h h':PH}(hle:h.le h'){ds:List D}{vs:List Value}(r:RepL h ds vs):RepL h' ds vs:=by
 simpa using RepL.mono hle ds vs [] r
theorem RepL.length{h:PH}:∀{ds:List D} {vs:List Value},RepL h ds vs->ds.length<=vs.length
|[],_,_=>by simp
|_::_,[],r=>by simp[RepL]at r
|d::ds,v::vs,r=>by
 simp only[RepL]at r;have:=RepL.length r.2;simpa using this
theorem RepL.get{h:PH}:∀{ds:List D} {vs:List Value} {j:Nat} {x:D},RepL h ds vs->ds[j]?=some x->∃v,vs[j]?=some v/\v.one1=true/\RepD h x v
|[],_,j,x,_,e=>by simp at e
|_::_,[],_,_,r,_=>by simp[RepL]at r
|d::ds,v::vs,0,x,r,e=>by
 simp only[RepL]at r;simp at e;subst e;exact⟨v,by simp,r.1.1,r.1.2⟩
|d::ds,v::vs,j+1,x,r,e=>by
 simp only[RepL]at r;simp only[List.getElem?_cons_succ]at e⊢;exact RepL.get r.2 e
theorem RepL.take{h:PH}:∀{ds:List D} {vs:List Value},RepL h ds vs->RepL h ds (vs.take ds.length)
|[],_,_=>by simp[RepL]
|_::_,[],r=>by simp[RepL]at r
|d::ds,v::vs,r=>by
 simp only[RepL,List.length_cons,List.take_succ_cons]at r⊢;exact⟨r.1,RepL.take r.2⟩
theorem RepL.drop{h:PH}:∀{ds:List D} {vs:List Value} (n:Nat),RepL h ds vs->RepL h (ds.drop n) (vs.drop n)
|[],_,n,_=>by simp[RepL]
|_::_,[],_,r=>by simp[RepL]at r
|d::ds,v::vs,0,r=>by simpa using r
|d::ds,v::vs,n+1,r=>by
 simp only[RepL]at r;simpa using RepL.drop n r.2
theorem RepL.takeDs{h:PH}:∀{ds:List D} {vs:List Value} (n:Nat),RepL h ds vs->RepL h (ds.take n) vs
|[],_,n,_=>by simp[RepL]
|_::_,[],_,r=>by simp[RepL]at r
|d::ds,v::vs,0,r=>by simp[RepL]
|d::ds,v::vs,n+1,r=>by
 simp only[RepL,List.take_succ_cons]at r⊢;exact⟨r.1,RepL.takeDs n r.2⟩
theorem RepE.get{h:PH}{s:Nat}:∀{es:List (List D)} {vs:List Value} {i:Nat} {e:List D},RepE h s es vs->es[i]?=some e->e.length=s/\RepL h e (vs.drop (i*s))
|[],_,i,e,_,hi=>by simp at hi
|e0::es,vs,0,e,r,hi=>by
 simp only[RepE]at r;simp at hi;subst hi;exact⟨r.1,by simpa using r.2.1⟩
|e0::es,vs,i+1,e,r,hi=>by
 simp only[RepE]at r;simp only[List.getElem?_cons_succ]at hi;have:=RepE.get r.2.2 hi;refine⟨this.1,?_⟩;rw[bO]at this;have e1:s+i*s=(i+1)*s:=by rw[bC,bu,dH]
 rw[<-e1];exact this.2
theorem RepE.drop{h:PH}{s:Nat}:∀{es:List (List D)} {vs:List Value} (n:Nat),RepE h s es vs->RepE h s (es.drop n) (vs.drop (n*s))
|[],_,n,_=>by simp[RepE]
|e0::es,vs,0,r=>by simpa using r
|e0::es,vs,n+1,r=>by
 simp only[RepE]at r;have:=RepE.drop n r.2.2;rw[bO]at this;have e1:s+n*s=(n+1)*s:=by rw[bC,bu,dH]
 rw[<-e1];simpa using this
theorem RepE.take{h:PH}{s:Nat}:∀{es:List (List D)} {vs:List Value} (n:Nat),RepE h s es vs->RepE h s (es.take n) vs
|[],_,n,_=>by simp[RepE]
|e0::es,vs,0,r=>by simp[RepE]
|e0::es,vs,n+1,r=>by
 simp only[RepE,List.take_succ_cons]at r⊢;exact⟨r.1,r.2.1,RepE.take n r.2.2⟩
theorem RepE.total{h:PH}{s:Nat}:∀{es:List (List D)} {vs:List Value},RepE h s es vs->es.length*s<=vs.length
|[],_,_=>by simp
|e0::es,vs,r=>by
 simp only[RepE]at r;have h1:=RepL.length r.2.1;have h2:=RepE.total r.2.2;simp only[List.length_drop]at h2;simp only[List.length_cons,bC,bu];by_cases hs:s<=vs.length
 ·omega
 ·omega
theorem RepL.append{h:PH}:∀{ds:List D} {vs:List Value} {ds':List D} {vs':List Value},RepL h ds vs->vs.length=ds.length->RepL h ds' vs'->RepL h (ds++ds') (vs++vs')
|[],[],_,_,_,_,r=>by simpa using r
|[],_::_,_,_,_,e,_=>by simp at e
|_::_,[],_,_,r,_,_=>by simp[RepL]at r
|d::ds,v::vs,ds',vs',r,e,r'=>by
 simp only[RepL,List.cons_append]at r⊢;exact⟨r.1,RepL.append r.2 (by simpa using e) r'⟩
mutual
def RepC(h:PH)(ρ:RM):AC->Value->Prop
|.d x,v=>RepD h x v
|.ptr b off,v=>∃p,ρ b=some p/\v=.pointer (some ⟨p.1,off,none⟩)
|.ept s b i off,v=>∃p,ρ b=some p/\v=.pointer (some ⟨p.1,i*s+off,none⟩)
|.msl s b off len,v=>∃p a,ρ b=some p/\v=.slice a len (p.2-off)/\off+len<=p.2/\(off<p.2->a=some ⟨p.1,off*s,none⟩)/\(∀q,a=some q->0<p.2-off->q.spot=none)
|.map b,v=>∃p,ρ b=some p/\v=.map (some p.1)
|.fn f caps,v=>∃vs:List Value,v=.func f #[] vs.toArray/\vs.length=caps.length/\iJ h ρ caps vs
|.op r,v=>r v
def iJ(h:PH)(ρ:RM):List AC->List Value->Prop
|[],_=>True
|_::_,[]=>False
|c::cs,v::vs=>(v.one1=true/\RepC h ρ c v)/\iJ h ρ cs vs
end
mutual
def RepV(h:PH)(ρ:RM):AV->Value->Prop
|.c x,v=>RepC h ρ x v
|.ag cs,v=>∃vs:List Value,v=.agg vs.toArray/\vs.length=cs.length/\iJ h ρ cs vs
|.tup xs,v=>∃vs:List Value,v=.tuple vs.toArray/\zai h ρ xs vs
def zai(h:PH)(ρ:RM):List AV->List Value->Prop
|[],vs=>vs=[]
|_::_,[]=>False
|x::xs,v::vs=>RepV h ρ x v/\zai h ρ xs vs
end
def iR(h:PH)(ρ:RM)(s:Nat):List (List AC)->List Value->Prop
|[],_=>True
|e::es,vs=>e.length=s/\iJ h ρ e vs/\iR h ρ s es (vs.drop s)
mutual
def kR(h:PH):DV->Value->Prop
|.one x,v=>RepD h x v
|.agg cs,v=>∃vs:List Value,v=.agg vs.toArray/\vs.length=cs.length/\RepL h cs vs
|.tup xs,v=>∃vs:List Value,v=.tuple vs.toArray/\ji h xs vs
def ji(h:PH):List DV->List Value->Prop
|[],vs=>vs=[]
|_::_,[]=>False
|x::xs,v::vs=>kR h x v/\ji h xs vs
end
def RM.le(ρ ρ':RM):Prop:=∀b p,ρ b=some p->ρ' b=some p
theorem RM.le_refl(ρ:RM):ρ.le ρ:=λ_ _ e=>e
theorem RM.le_trans{a b c:RM}(h:a.le b)(k:b.le c):a.le c:=λx p e=>k x p (h x p e)
section
variable {h h':PH} {ρ ρ':RM}
mutual
theorem RepC.mono(hle:h.le h')(rle:ρ.le ρ'):∀(c:AC) (v:Value),RepC h ρ c v->RepC h' ρ' c v
|.d x,v,r=>by simp only[RepC]at r⊢;exact RepD.mono hle x v r
|.ptr b off,v,r=>by simp only[RepC]at r⊢;obtain⟨p,h1,h2⟩:=r;exact⟨p,rle _ _ h1,h2⟩
|.ept s b i off,v,r=>by simp only[RepC]at r⊢;obtain⟨p,h1,h2⟩:=r;exact⟨p,rle _ _ h1,h2⟩
|.msl s b off len,v,r=>by simp only[RepC]at r⊢;obtain⟨p,a,h1,h2⟩:=r;exact⟨p,a,rle _ _ h1,h2⟩
|.map b,v,r=>by simp only[RepC]at r⊢;obtain⟨p,h1,h2⟩:=r;exact⟨p,rle _ _ h1,h2⟩
|.fn f caps,v,r=>by
 simp only[RepC]at r⊢;obtain⟨vs,h1,h2,h3⟩:=r;exact⟨vs,h1,h2,iJ.mono hle rle caps vs h3⟩
|.op q,v,r=>by simpa only[RepC]using r
theorem iJ.mono(hle:h.le h')(rle:ρ.le ρ'):∀(cs:List AC) (vs:List Value),iJ h ρ cs vs->iJ h' ρ' cs vs
|[],_,_=>by simp[iJ]
|_::_,[],r=>by simp[iJ]at r
|c::cs,v::vs,r=>by
 simp only[iJ]at r⊢;exact⟨⟨r.1.1,RepC.mono hle rle c v r.1.2⟩,iJ.mono hle rle cs vs r.2⟩
end
mutual
theorem RepV.mono(hle:h.le h')(rle:ρ.le ρ'):∀(x:AV) (v:Value),RepV h ρ x v->RepV h' ρ' x v
|.c x,v,r=>by simp only[RepV]at r⊢;exact RepC.mono hle rle x v r
|.ag cs,v,r=>by
 simp only[RepV]at r⊢;obtain⟨vs,h1,h2,h3⟩:=r;exact⟨vs,h1,h2,iJ.mono hle rle cs vs h3⟩
|.tup xs,v,r=>by
 simp only[RepV]at r⊢;obtain⟨vs,h1,h2⟩:=r;exact⟨vs,h1,zai.mono hle rle xs vs h2⟩
theorem zai.mono(hle:h.le h')(rle:ρ.le ρ'):∀(xs:List AV) (vs:List Value),zai h ρ xs vs->zai h' ρ' xs vs
|[],_,r=>by simpa[zai]using r
|_::_,[],r=>by simp[zai]at r
|x::xs,v::vs,r=>by
 simp only[zai]at r⊢;exact⟨RepV.mono hle rle x v r.1,zai.mono hle rle xs vs r.2⟩
end
theorem iR.mono(hle:h.le h')(rle:ρ.le ρ'){s:Nat}:∀(es:List (List AC)) (vs:List Value),iR h ρ s es vs->iR h' ρ' s es vs
|[],_,_=>by simp[iR]
|e::es,vs,r=>by
 simp only[iR]at r⊢;exact⟨r.1,iJ.mono hle rle e vs r.2.1,iR.mono hle rle es _ r.2.2⟩
theorem iJ.get:∀{ds:List AC} {vs:List Value} {j:Nat} {x:AC},iJ h ρ ds vs->ds[j]?=some x->∃v,vs[j]?=some v/\v.one1=true/\RepC h ρ x v
|[],_,j,x,_,e=>by simp at e
|_::_,[],_,_,r,_=>by simp[iJ]at r
|d::ds,v::vs,0,x,r,e=>by
 simp only[iJ]at r;simp at e;subst e;exact⟨v,by simp,r.1.1,r.1.2⟩
|d::ds,v::vs,j+1,x,r,e=>by
 simp only[iJ]at r;simp only[List.getElem?_cons_succ]at e⊢;exact iJ.get r.2 e
theorem iJ.length:∀{ds:List AC} {vs:List Value},iJ h ρ ds vs->ds.length<=vs.length
|[],_,_=>by simp
|_::_,[],r=>by simp[iJ]at r
|d::ds,v::vs,r=>by
 simp only[iJ]at r;have:=iJ.length r.2;simpa using this
theorem iJ.take:∀{ds:List AC} {vs:List Value},iJ h ρ ds vs->iJ h ρ ds (vs.take ds.length)
|[],_,_=>by simp[iJ]
|_::_,[],r=>by simp[iJ]at r
|d::ds,v::vs,r=>by
 simp only[iJ,List.length_cons,List.take_succ_cons]at r⊢;exact⟨r.1,iJ.take r.2⟩
theorem iJ.drop:∀{ds:List AC} {vs:List Value} (n:Nat),iJ h ρ ds vs->iJ h ρ (ds.drop n) (vs.drop n)
|[],_,n,_=>by simp[iJ]
|_::_,[],_,r=>by simp[iJ]at r
|d::ds,v::vs,0,r=>by simpa using r
|d::ds,v::vs,n+1,r=>by
 simp only[iJ]at r;simpa using iJ.drop n r.2
theorem iJ.takeDs:∀{ds:List AC} {vs:List Value} (n:Nat),iJ h ρ ds vs->iJ h ρ (ds.take n) vs
|[],_,n,_=>by simp[iJ]
|_::_,[],_,r=>by simp[iJ]at r
|d::ds,v::vs,0,r=>by simp[iJ]
|d::ds,v::vs,n+1,r=>by
 simp only[iJ,List.take_succ_cons]at r⊢;exact⟨r.1,iJ.takeDs n r.2⟩
theorem iJ.more:∀{ds:List AC} {vs:List Value} (t:List Value),iJ h ρ ds vs->iJ h ρ ds (vs++t)
|[],_,t,_=>by simp[iJ]
|_::_,[],_,r=>by simp[iJ]at r
|d::ds,v::vs,t,r=>by
 simp only[iJ,List.cons_append]at r⊢;exact⟨r.1,iJ.more t r.2⟩
theorem iJ.set:∀{ds:List AC} {vs:List Value} {j:Nat} {x:AC} {v:Value},iJ h ρ ds vs->v.one1=true->RepC h ρ x v->iJ h ρ (ds.set j x) (vs.set j v)
|[],_,_,_,_,_,_,_=>by simp[iJ]
|_::_,[],_,_,_,r,_,_=>by simp[iJ]at r
|d::ds,v::vs,0,x,u,r,e,q=>by
 simp only[iJ,List.set_cons_zero]at r⊢;exact⟨⟨e,q⟩,r.2⟩
|d::ds,v::vs,j+1,x,u,r,e,q=>by
 simp only[iJ,List.set_cons_succ]at r⊢;exact⟨r.1,iJ.set r.2 e q⟩
theorem iJ.of_D:∀{ds:List D} {vs:List Value},RepL h ds vs->iJ h ρ (ds.map .d) vs
|[],_,_=>by simp[iJ]
|_::_,[],r=>by simp[RepL]at r
|d::ds,v::vs,r=>by
 simp only[RepL]at r;simp only[List.map_cons,iJ,RepC];exact⟨r.1,iJ.of_D r.2⟩
theorem iJ.to_D:∀{ds:List D} {vs:List Value},iJ h ρ (ds.map .d) vs->RepL h ds vs
|[],_,_=>by simp[RepL]
|_::_,[],r=>by simp[iJ]at r
|d::ds,v::vs,r=>by
 simp only[List.map_cons,iJ,RepC]at r;simp only[RepL];exact⟨r.1,iJ.to_D r.2⟩
theorem iR.get{s:Nat}:∀{es:List (List AC)} {vs:List Value} {i:Nat} {e:List AC},iR h ρ s es vs->es[i]?=some e->e.length=s/\iJ h ρ e (vs.drop (i*s))
|[],_,i,e,_,hi=>by simp at hi
|e0::es,vs,0,e,r,hi=>by
 simp only[iR]at r;simp at hi;subst hi;exact⟨r.1,by simpa using r.2.1⟩
|e0::es,vs,i+1,e,r,hi=>by
 simp only[iR]at r;simp only[List.getElem?_cons_succ]at hi;have:=iR.get r.2.2 hi;refine⟨this.1,?_⟩;rw[bO]at this;have e1:s+i*s=(i+1)*s:=by rw[bC,bu,dH]
 rw[<-e1];exact this.2
theorem iR.total{s:Nat}:∀{es:List (List AC)} {vs:List Value},iR h ρ s es vs->es.length*s<=vs.length
|[],_,_=>by simp
|e0::es,vs,r=>by
 simp only[iR]at r;have h1:=iJ.length r.2.1;have h2:=iR.total r.2.2;simp only[List.length_drop]at h2;simp only[List.length_cons,bC,bu];by_cases hs:s<=vs.length
 ·omega
 ·omega
theorem iR.more{s:Nat}:∀{es:List (List AC)} {vs:List Value} (t:List Value),iR h ρ s es vs->iR h ρ s es (vs++t)
|[],_,t,_=>by simp[iR]
|e::es,vs,t,r=>by
 simp only[iR]at r⊢;refine⟨r.1,r.2.1.more t,?_⟩;rw[List.drop_append];exact iR.more _ r.2.2
theorem iR.append{s:Nat}:∀{es:List (List AC)} {vs:List Value} {es':List (List AC)} {vs':List Value},iR h ρ s es vs->vs.length=es.length*s->iR h ρ s es' vs'->iR h ρ s (es++es') (vs++vs')
|[],vs,_,_,_,e,r=>by
 have:vs=[]:=by simpa using e
 subst this;simpa using r
|e0::es,vs,es',vs',r,e,r'=>by
 simp only[iR,List.cons_append]at r⊢;have hl:vs.length=s+es.length*s:=by simpa[bC,dH]using e
 refine⟨r.1,r.2.1.more vs',?_⟩;rw[dN (by omega)];exact iR.append r.2.2 (by simp;omega) r'
theorem iR.of_E{s:Nat}:∀{es:List (List D)} {vs:List Value},RepE h s es vs->iR h ρ s (es.map (·.map .d)) vs
|[],_,_=>by simp[iR]
|e::es,vs,r=>by
 simp only[RepE]at r;simp only[List.map_cons,iR,aU];exact⟨r.1,iJ.of_D r.2.1,iR.of_E r.2.2⟩
theorem iR.to_E{s:Nat}:∀{es:List (List D)} {vs:List Value},iR h ρ s (es.map (·.map .d)) vs->RepE h s es vs
|[],_,_=>by simp[RepE]
|e::es,vs,r=>by
 simp only[List.map_cons,iR,aU]at r;simp only[RepE];exact⟨r.1,iJ.to_D r.2.1,iR.to_E r.2.2⟩
theorem iR.takeEs{s:Nat}:∀{es:List (List AC)} {vs:List Value} (n:Nat),iR h ρ s es vs->iR h ρ s (es.take n) vs
|[],_,n,_=>by simp[iR]
|e0::es,vs,0,r=>by simp[iR]
|e0::es,vs,n+1,r=>by
 simp only[iR,List.take_succ_cons]at r⊢;exact⟨r.1,r.2.1,iR.takeEs n r.2.2⟩
theorem iR.drop{s:Nat}:∀{es:List (List AC)} {vs:List Value} (n:Nat),iR h ρ s es vs->iR h ρ s (es.drop n) (vs.drop (n*s))
|[],_,n,_=>by simp[iR]
|e0::es,vs,0,r=>by simpa using r
|e0::es,vs,n+1,r=>by
 simp only[iR]at r;have:=iR.drop n r.2.2;rw[bO]at this;have e1:s+n*s=(n+1)*s:=by rw[bC,bu,dH]
 rw[<-e1];simpa using this
end
abbrev fu:=@PH.le_refl
abbrev fw:=@RM.le_refl
end Go.Abs
namespace Go.Abs
def upd{α:Type}(f:Nat->α)(k:Nat)(v:α):Nat->α:=λj=>if j=k then v else f j
theorem zaE{α:Type}(f:Nat->α)(k:Nat)(v:α):upd f k v k=v:=by simp[upd]
theorem zcg{α:Type}(f:Nat->α){k j:Nat}(v:α)(h:j≠k):upd f k v j=f j:=by simp[upd,h]
def Real:Blk->Nat × Nat->Prop
|.non,_|.dead,_|.pin _ _,_=>False
|.arr _ _,p=>0<p.2
|_,_=>True
def RepM(h:PH)(ρ:RM):List (D × AV)->List MapEntry->Prop
|[],ms=>ms=[]
|_::_,[]=>False
|e::es,x::ms=>(RepD h e.1 x.key/\RepV h ρ e.2 x.val)/\RepM h ρ es ms
theorem RepM.mono{h h':PH}{ρ ρ':RM}(hle:h.le h')(rle:ρ.le ρ'):∀(es:List (D × AV)) (ms:List MapEntry),RepM h ρ es ms->RepM h' ρ' es ms
|[],_,r=>by simpa[RepM]using r
|_::_,[],r=>by simp[RepM]at r
|e::es,x::ms,r=>by
 simp only[RepM]at r⊢;exact⟨⟨RepD.mono hle _ _ r.1.1,RepV.mono hle rle _ _ r.1.2⟩,RepM.mono hle rle es ms r.2⟩
abbrev Heap:=Array Obj
def zaI(h:PH)(ρ:RM)(p:Nat × Nat):Blk->Heap->Prop
|.non,_=>True
|.dead,_=>True
|.pin t b,_=>p=t/\ρ b=some t
|.box cs,w=>∃(vs:List Value) (T:TypeId),w[p.1]?=some (.cells vs.toArray T (0,0))/\vs.length=cs.length/\iJ h ρ cs vs
|.arr s es,w=>(p.2=0/\es=[])\/∃(vs:List Value) (T:TypeId),w[p.1]?=some (.cells vs.toArray T (0,0))/\vs.length=p.2*s/\es.length<=p.2/\es.length<=zah/\iR h ρ s es vs
|.map es,w=>∃(ms:List MapEntry) (clock:Nat),w[p.1]?=some (.map ms.toArray clock)/\RepM h ρ es ms/\(∀e,e∈ms->e.born<clock)/\(ms.map (·.born)).Nodup
structure HRel (h:PH) (ρ:RM) (m:Hp) (w:Heap):Prop where
 pers:∀B o,h B=some o->w[B]?=some o
 dom:∀b,m b=.non↔ρ b=none
 own:∀b p,ρ b=some p->zaI h ρ p (m b) w
 inj:∀b c p q,ρ b=some p->ρ c=some q->Real (m b) p->Real (m c) q->p.1=q.1->b=c
 sep:∀b p,ρ b=some p->Real (m b) p->h p.1=none
def pM(ρ:RM)(m:Hp)(B:Nat):Prop:=∀b p,ρ b=some p->Real (m b) p->p.1≠B
structure Step (h:PH) (ρ:RM) (m:Hp) (w:Heap) (h':PH) (ρ':RM) (m':Hp) (w':Heap):Prop where
 hle:h.le h'
 hlow:∀B,B<w.size->pM ρ m B->h' B=h B
 rle:ρ.le ρ'
 size:w.size<=w'.size
 frame:∀B,B<w.size->pM ρ m B->w'[B]?=w[B]?
 own:∀b p,ρ' b=some p->Real (m' b) p->w.size<=p.1\/∃c q,ρ c=some q/\Real (m c) q/\q.1=p.1
theorem Step.free{h h':PH}{ρ ρ':RM}{m m':Hp}{w w':Heap}(s:Step h ρ m w h' ρ' m' w'){B:Nat}(hB:B<w.size)(hf:pM ρ m B):pM ρ' m' B:=by
 intro b p hp hr e;rcases s.own b p hp hr with h1|⟨c,q,hc,hq,e1⟩
 ·omega
 ·exact hf c q hc hq (e1.trans e)
theorem Step.trans{h h' h'':PH}{ρ ρ' ρ'':RM}{m m' m'':Hp}{w w' w'':Heap}(s:Step h ρ m w h' ρ' m' w')(t:Step h' ρ' m' w' h'' ρ'' m'' w''):
  Step h ρ m w h'' ρ'' m'' w'' where
 hle:=PH.le_trans s.hle t.hle
 hlow B hB hf:=(t.hlow B (dx hB s.size) (s.free hB hf)).trans (s.hlow B hB hf)
 rle:=RM.le_trans s.rle t.rle
 size:=ak s.size t.size
 frame B hB hf:=(t.frame B (dx hB s.size) (s.free hB hf)).trans (s.frame B hB hf)
 own b p hp hr:=by
  rcases t.own b p hp hr with h1|⟨c,q,hc,hq,e1⟩
  ·exact .inl (ak s.size h1)
  ·rcases s.own c q hc hq with h2|⟨d,r,hd,hr',e2⟩
   ·exact .inl (by omega)
   ·exact .inr ⟨d,r,hd,hr',e2.trans e1⟩
structure yQ (h:PH) (ρ:RM) (m:Hp) (w:Heap) (h':PH) (ρ':RM) (m':Hp) (w':Heap):Prop where
 hle:h.le h'
 hlow:∀B,B<w.size->pM ρ m B->h' B=h B
 size:w.size<=w'.size
 frame:∀B,B<w.size->pM ρ m B->w'[B]?=w[B]?
 own:∀b p,ρ' b=some p->Real (m' b) p->w.size<=p.1\/∃c q,ρ c=some q/\Real (m c) q/\q.1=p.1
theorem Step.wk{h h':PH}{ρ ρ':RM}{m m':Hp}{w w':Heap}(s:Step h ρ m w h' ρ' m' w'):yQ h ρ m w h' ρ' m' w':=⟨s.hle,s.hlow,s.size,s.frame,s.own⟩
theorem yQ.free{h h':PH}{ρ ρ':RM}{m m':Hp}{w w':Heap}(s:yQ h ρ m w h' ρ' m' w'){B:Nat}(hB:B<w.size)(hf:pM ρ m B):pM ρ' m' B:=by
 intro b p hp hr e;rcases s.own b p hp hr with h1|⟨c,q,hc,hq,e1⟩
 ·omega
 ·exact hf c q hc hq (e1.trans e)
theorem yQ.trans{h h' h'':PH}{ρ ρ' ρ'':RM}{m m' m'':Hp}{w w' w'':Heap}(s:yQ h ρ m w h' ρ' m' w')(t:Step h' ρ' m' w' h'' ρ'' m'' w''):
  yQ h ρ m w h'' ρ'' m'' w'' where
 hle:=PH.le_trans s.hle t.hle
 hlow B hB hf:=(t.hlow B (dx hB s.size) (s.free hB hf)).trans (s.hlow B hB hf)
 size:=ak s.size t.size
 frame B hB hf:=(t.frame B (dx hB s.size) (s.free hB hf)).trans (s.frame B hB hf)
 own b p hp hr:=by
  rcases t.own b p hp hr with h1|⟨c,q,hc,hq,e1⟩
  ·exact .inl (ak s.size h1)
  ·rcases s.own c q hc hq with h2|⟨d,r,hd,hr',e2⟩
   ·exact .inl (by omega)
   ·exact .inr ⟨d,r,hd,hr',e2.trans e1⟩
theorem Step.refl(h:PH)(ρ:RM)(m:Hp)(w:Heap):Step h ρ m w h ρ m w where
 hle:=fu h
 hlow _ _ _:=rfl
 rle:=fw ρ
 size:=aQ _
 frame _ _ _:=rfl
 own b p hp hr:=.inr ⟨b,p,hp,hr,rfl⟩
section
variable {h h':PH} {ρ ρ':RM} {m m':Hp} {w w':Heap}
theorem HRel.lt(H:HRel h ρ m w){B:Nat}{o:Obj}(e:h B=some o):B<w.size:=by
 have:=H.pers B o e;rcases aW B w.size with h1|h1
 ·exact h1
 ·rw[aj h1]at this;cases this
theorem zaI.congr{p:Nat × Nat}{blk:Blk}(hle:h.le h')(rle:ρ.le ρ')(e:w'[p.1]?=w[p.1]?)(r:zaI h ρ p blk w):zaI h' ρ' p blk w':=by
 cases blk with
 |non=>trivial
 |dead=>trivial
 |box cs=>
  obtain⟨vs,T,h1,h2,h3⟩:=r;exact⟨vs,T,e.trans h1,h2,iJ.mono hle rle _ _ h3⟩
 |arr s es=>
  rcases r with r|⟨vs,T,h1,h2,h3,h5,h4⟩
  ·exact .inl r
  ·exact .inr ⟨vs,T,e.trans h1,h2,h3,h5,iR.mono hle rle _ _ h4⟩
 |map es=>
  obtain⟨ms,ck,h1,h2,h3,h4⟩:=r;exact⟨ms,ck,e.trans h1,RepM.mono hle rle _ _ h2,h3,h4⟩
 |pin t b=>exact⟨r.1,rle _ _ r.2⟩
theorem zaI.notReal{p:Nat × Nat}{blk:Blk}(hn:¬Real blk p)(r:zaI h ρ p blk w)(h':PH){ρ':RM}(rle:ρ.le ρ')(w':Heap):zaI h' ρ' p blk w':=by
 cases blk with
 |non=>trivial
 |dead=>trivial
 |box cs=>exact absurd trivial hn
 |arr s es=>
  have h0:p.2=0:=by simp only[Real]at hn;omega
  rcases r with r|⟨vs,T,h1,h2,h3,h5,h4⟩
  ·exact .inl r
  ·exact .inl ⟨h0,aT.1 (by omega)⟩
 |map es=>exact absurd trivial hn
 |pin t b=>exact⟨r.1,rle _ _ r.2⟩
theorem zaI.lt{p:Nat × Nat}{blk:Blk}(hn:Real blk p)(r:zaI h ρ p blk w):p.1<w.size:=by
 have key:∀o,w[p.1]?=some o->p.1<w.size:=λo e=>by
  rcases aW p.1 w.size with h1|h1
  ·exact h1
  ·rw[aj h1]at e;cases e
 cases blk with
 |non=>exact hn.elim
 |dead=>exact hn.elim
 |pin t b=>exact hn.elim
 |box cs=>obtain⟨vs,T,h1,_⟩:=r;exact key _ h1
 |arr s es=>
  rcases r with r|⟨vs,T,h1,_⟩
  ·simp only[Real]at hn;omega
  ·exact key _ h1
 |map es=>obtain⟨vs,T,h1,_⟩:=r;exact key _ h1
theorem HRel.real_lt(H:HRel h ρ m w){b:Nat}{p:Nat × Nat}(e:ρ b=some p)(hr:Real (m b) p):p.1<w.size:=zaI.lt hr (H.own b p e)
theorem HRel.grow(H:HRel h ρ m w)(hle:h.le h')(hp:∀B o,h' B=some o->w'[B]?=some o)
  (hf:∀B,B<w.size->¬pM ρ m B->w'[B]?=w[B]?/\h' B=h B):HRel h' ρ m w' where
 pers:=hp
 dom:=H.dom
 own b p e:=by
  by_cases hr:Real (m b) p
  ·exact zaI.congr hle (fw _) (hf p.1 (H.real_lt e hr) (λhh=>hh b p e hr rfl)).1 (H.own b p e)
  ·exact zaI.notReal hr (H.own b p e) _ (fw _) _
 inj:=H.inj
 sep b p e hr:=by
  rw[(hf p.1 (H.real_lt e hr) (λhh=>hh b p e hr rfl)).2];exact H.sep b p e hr
theorem Dq(w:Heap)(o:Obj){B:Nat}(hB:B<w.size):(w.push o)[B]?=w[B]?:=by
 rw[Array.getElem?_push,aB (by omega)]
theorem Dr(w:Heap)(o:Obj):(w.push o)[w.size]?=some o:=by simp
theorem HRel.pushP(H:HRel h ρ m w)(o:Obj):HRel (upd h w.size (some o)) ρ m (w.push o)/\Step h ρ m w (upd h w.size (some o)) ρ m (w.push o):=by
 have hle:h.le (upd h w.size (some o)):=λB q e=>by
  have:=H.lt e;rw[zcg _ _ (by omega)];exact e
 refine⟨H.grow hle ?_ ?_,⟨hle,λB hB _=>zcg _ _ (by omega),fw _,by simp,λB hB _=>Dq _ _ hB,λb p e hr=>.inr ⟨b,p,e,hr,rfl⟩⟩⟩
 ·intro B q e;by_cases hB:B=w.size
  ·subst hB;rw[zaE]at e;rw[Dr];exact e
  ·rw[zcg _ _ hB]at e;rw[Dq _ _ (H.lt e)];exact H.pers B q e
 ·intro B hB _;exact⟨Dq _ _ hB,zcg _ _ (by omega)⟩
theorem CY{b:Nat}{p:Nat × Nat}(e:ρ b=none):ρ.le (upd ρ b (some p)):=λc q hc=>by
 by_cases hcb:c=b
 ·subst hcb;rw[e]at hc;cases hc
 ·rw[zcg _ _ hcb];exact hc
theorem HRel.pushO(H:HRel h ρ m w)(o:Obj){b:Nat}(hb:m b=.non)(cap:Nat){blk:Blk}(hlive:blk≠.non)
  (hrep:zaI h (upd ρ b (some (w.size,cap))) (w.size,cap) blk (w.push o)):
  HRel h (upd ρ b (some (w.size,cap))) (upd m b blk) (w.push o)/\Step h ρ m w h (upd ρ b (some (w.size,cap))) (upd m b blk) (w.push o):=by
 have e0:ρ b=none:=(H.dom b).1 hb;have rle:=CY (p:=(w.size,cap)) e0;refine⟨⟨?_,?_,?_,?_,?_⟩,⟨fu h,λB hB _=>rfl,rle,by simp,λB hB _=>Dq _ _ hB,?_⟩⟩
 ·intro B q e;rw[Dq _ _ (H.lt e)];exact H.pers B q e
 ·intro c;by_cases hc:c=b
  ·subst hc;simp[zaE,hlive]
  ·rw[zcg _ _ hc,zcg _ _ hc];exact H.dom c
 ·intro c p e;by_cases hc:c=b
  ·subst hc;rw[zaE]at e⊢;cases e;exact hrep
  ·rw[zcg _ _ hc]at e⊢;by_cases hr:Real (m c) p
   ·exact zaI.congr (fu h) rle (Dq _ _ (H.real_lt e hr)) (H.own c p e)
   ·exact zaI.notReal hr (H.own c p e) _ rle _
 ·intro c d p q hc hd hr hs e;by_cases h1:c=b<;>by_cases h2:d=b
  ·rw[h1,h2]
  ·subst h1;rw[zaE]at hc;cases hc;rw[zcg _ _ h2]at hd hs;have:=H.real_lt hd hs;simp at e;omega
  ·subst h2;rw[zaE]at hd;cases hd;rw[zcg _ _ h1]at hc hr;have:=H.real_lt hc hr;simp at e;omega
  ·rw[zcg _ _ h1]at hc hr;rw[zcg _ _ h2]at hd hs;exact H.inj c d p q hc hd hr hs e
 ·intro c p e hr;by_cases hc:c=b
  ·subst hc;rw[zaE]at e;cases e;cases hh:h w.size with
   |none=>rfl
   |some q=>have:=H.lt hh;omega
  ·rw[zcg _ _ hc]at e hr;exact H.sep c p e hr
 ·intro c p e hr;by_cases hc:c=b
  ·subst hc;rw[zaE]at e;cases e;exact .inl (aQ _)
  ·rw[zcg _ _ hc]at e hr;exact .inr ⟨c,p,e,hr,rfl⟩
theorem Dt(w:Heap)(i:Nat)(o:Obj){B:Nat}(hB:B≠i):(w.setIfInBounds i o)[B]?=w[B]?:=by
 rw[bS (Ne.symm hB)]
theorem Hz(w:Heap){i:Nat}(o:Obj)(hi:i<w.size):(w.setIfInBounds i o)[i]?=some o:=by
 simp[dE,hi]
theorem HRel.set(H:HRel h ρ m w)(o:Obj){b:Nat}{p:Nat × Nat}(e:ρ b=some p)(hr:Real (m b) p){blk:Blk}(hlive:blk≠.non)
  (hrep:zaI h ρ p blk (w.setIfInBounds p.1 o)):
  HRel h ρ (upd m b blk) (w.setIfInBounds p.1 o)/\Step h ρ m w h ρ (upd m b blk) (w.setIfInBounds p.1 o):=by
 refine⟨⟨?_,?_,?_,?_,?_⟩,⟨fu h,λB hB _=>rfl,fw _,by simp,?_,?_⟩⟩
 ·intro B q hq;rw[Dt _ _ _ (λhh=>by subst hh;rw[H.sep b p e hr]at hq;cases hq)];exact H.pers B q hq
 ·intro c;by_cases hc:c=b
  ·subst hc;rw[zaE,e];simp[hlive]
  ·rw[zcg _ _ hc];exact H.dom c
 ·intro c q hq;by_cases hc:c=b
  ·subst hc;rw[zaE];rw[e]at hq;cases hq;exact hrep
  ·rw[zcg _ _ hc];by_cases hs:Real (m c) q
   ·exact zaI.congr (fu h) (fw ρ) (Dt _ _ _ (λhh=>hc (H.inj c b q p hq e hs hr hh))) (H.own c q hq)
   ·exact zaI.notReal hs (H.own c q hq) _ (fw _) _
 ·intro c d q r hc hd hs ht heq;by_cases h1:c=b<;>by_cases h2:d=b
  ·rw[h1,h2]
  ·subst h1;rw[zcg _ _ h2]at ht;rw[e]at hc;cases hc;exact H.inj _ _ _ _ e hd hr ht heq
  ·subst h2;rw[zcg _ _ h1]at hs;rw[e]at hd;cases hd;exact H.inj _ _ _ _ hc e hs hr heq
  ·rw[zcg _ _ h1]at hs;rw[zcg _ _ h2]at ht;exact H.inj c d q r hc hd hs ht heq
 ·intro c q hq hs;by_cases hc:c=b
  ·subst hc;rw[e]at hq;cases hq;exact H.sep _ _ e hr
  ·rw[zcg _ _ hc]at hs;exact H.sep c q hq hs
 ·intro B hB hf;exact Dt _ _ _ (λhh=>hf b p e hr hh.symm)
 ·intro c q hq hs;by_cases hc:c=b
  ·subst hc;rw[e]at hq;cases hq;exact .inr ⟨_,_,e,hr,rfl⟩
  ·rw[zcg _ _ hc]at hs;exact .inr ⟨c,q,hq,hs,rfl⟩
theorem HRel.kill(H:HRel h ρ m w){b:Nat}(hb:m b≠.non):HRel h ρ (upd m b .dead) w/\Step h ρ m w h ρ (upd m b .dead) w:=by
 refine⟨⟨H.pers,?_,?_,?_,?_⟩,⟨fu h,λB hB _=>rfl,fw _,aQ _,λB hB _=>rfl,?_⟩⟩
 ·intro c;by_cases hc:c=b
  ·subst hc;rw[zaE];constructor
   ·intro h;cases h
   ·intro h;exact absurd ((H.dom _).2 h) hb
  ·rw[zcg _ _ hc];exact H.dom c
 ·intro c q hq;by_cases hc:c=b
  ·subst hc;rw[zaE];trivial
  ·rw[zcg _ _ hc];exact H.own c q hq
 ·intro c d q r hc hd hs ht heq;by_cases h1:c=b
  ·subst h1;rw[zaE]at hs;exact hs.elim
  by_cases h2:d=b
  ·subst h2;rw[zaE]at ht;exact ht.elim
  rw[zcg _ _ h1]at hs;rw[zcg _ _ h2]at ht;exact H.inj c d q r hc hd hs ht heq
 ·intro c q hq hs;by_cases hc:c=b
  ·subst hc;rw[zaE]at hs;exact hs.elim
  ·rw[zcg _ _ hc]at hs;exact H.sep c q hq hs
 ·intro c q hq hs;by_cases hc:c=b
  ·subst hc;rw[zaE]at hs;exact hs.elim
  ·rw[zcg _ _ hc]at hs;exact .inr ⟨c,q,hq,hs,rfl⟩
theorem HRel.move(H:HRel h ρ m w)(o:Obj){b c:Nat}{p:Nat × Nat}(e:ρ b=some p)(hr:Real (m b) p)(hc:m c=.non){blk:Blk}(hlive:blk≠.non)
  (hrep:zaI h (upd ρ c (some p)) p blk (w.setIfInBounds p.1 o)):
  HRel h (upd ρ c (some p)) (upd (upd m b .dead) c blk) (w.setIfInBounds p.1 o)/\Step h ρ m w h (upd ρ c (some p)) (upd (upd m b .dead) c blk) (w.setIfInBounds p.1 o):=by
 have hbn:m b≠.non:=λhh=>by rw[hh]at hr;exact hr
 have hcb:c≠b:=λhh=>by subst hh;exact hbn hc
 have e0:ρ c=Option.none:=(H.dom c).1 hc;have rle:=CY (p:=p) e0;refine⟨⟨?_,?_,?_,?_,?_⟩,⟨fu h,λB hB _=>rfl,rle,by simp,?_,?_⟩⟩
 ·intro B q hq;rw[Dt _ _ _ (λhh=>by subst hh;rw[H.sep b p e hr]at hq;cases hq)];exact H.pers B q hq
 ·intro d;by_cases hd:d=c
  ·subst hd;simp[zaE,hlive]
  ·rw[zcg _ _ hd,zcg _ _ hd];by_cases hb:d=b
   ·subst hb;rw[zaE,e];simp
   ·rw[zcg _ _ hb];exact H.dom d
 ·intro d q hq;by_cases hd:d=c
  ·subst hd;rw[zaE]at hq⊢;cases hq;exact hrep
  ·rw[zcg _ _ hd]at hq⊢;by_cases hb:d=b
   ·subst hb;rw[zaE];trivial
   ·rw[zcg _ _ hb];by_cases hs:Real (m d) q
    ·exact zaI.congr (fu h) rle (Dt _ _ _ (λhh=>hb (H.inj d b q p hq e hs hr hh))) (H.own d q hq)
    ·exact zaI.notReal hs (H.own d q hq) _ rle _
 ·intro d d' q q' hd hd' hs hs' heq;have hdb:d≠b:=λhh=>by subst hh;rw[zcg _ _ (Ne.symm hcb),zaE]at hs;exact hs
  have hdb':d'≠b:=λhh=>by subst hh;rw[zcg _ _ (Ne.symm hcb),zaE]at hs';exact hs'
  by_cases h1:d=c<;>by_cases h2:d'=c
  ·rw[h1,h2]
  ·subst h1;rw[zaE]at hd;cases hd;rw[zcg _ _ h2]at hd' hs';rw[zcg _ _ hdb']at hs';exact absurd (H.inj d' b q' p hd' e hs' hr heq.symm) hdb'
  ·subst h2;rw[zaE]at hd';cases hd';rw[zcg _ _ h1]at hd hs;rw[zcg _ _ hdb]at hs;exact absurd (H.inj d b q p hd e hs hr heq) hdb
  ·rw[zcg _ _ h1]at hd hs;rw[zcg _ _ h2]at hd' hs';rw[zcg _ _ hdb]at hs;rw[zcg _ _ hdb']at hs';exact H.inj d d' q q' hd hd' hs hs' heq
 ·intro d q hq hs;by_cases hd:d=c
  ·subst hd;rw[zaE]at hq;cases hq;exact H.sep b p e hr
  ·rw[zcg _ _ hd]at hq hs;have hdb:d≠b:=λhh=>by subst hh;rw[zaE]at hs;exact hs
   rw[zcg _ _ hdb]at hs;exact H.sep d q hq hs
 ·intro B hB hf;exact Dt _ _ _ (λhh=>hf b p e hr hh.symm)
 ·intro d q hq hs;by_cases hd:d=c
  ·subst hd;rw[zaE]at hq;cases hq;exact .inr ⟨b,p,e,hr,rfl⟩
  ·rw[zcg _ _ hd]at hq hs;have hdb:d≠b:=λhh=>by subst hh;rw[zaE]at hs;exact hs
   rw[zcg _ _ hdb]at hs;exact .inr ⟨d,q,hq,hs,rfl⟩
theorem HRel.none(H:HRel h ρ m w){b:Nat}(hb:m b=.non)(s:Nat):
  HRel h (upd ρ b (some (0,0))) (upd m b (.arr s [])) w/\Step h ρ m w h (upd ρ b (some (0,0))) (upd m b (.arr s [])) w:=by
 have e0:ρ b=Option.none:=(H.dom b).1 hb;have rle:=CY (p:=(0,0)) e0;refine⟨⟨H.pers,?_,?_,?_,?_⟩,⟨fu h,λB hB _=>rfl,rle,aQ _,λB hB _=>rfl,?_⟩⟩
 ·intro d;by_cases hd:d=b
  ·subst hd;simp[zaE]
  ·rw[zcg _ _ hd,zcg _ _ hd];exact H.dom d
 ·intro d r hr;by_cases hd:d=b
  ·subst hd;rw[zaE]at hr⊢;cases hr;exact .inl ⟨rfl,rfl⟩
  ·rw[zcg _ _ hd]at hr⊢;exact zaI.congr (fu h) rle rfl (H.own d r hr)
 ·intro d d' r r' hd hd' hs hs' heq;by_cases h1:d=b
  ·subst h1;rw[zaE]at hd hs;cases hd;simp[Real]at hs
  by_cases h2:d'=b
  ·subst h2;rw[zaE]at hd' hs';cases hd';simp[Real]at hs'
  rw[zcg _ _ h1]at hd hs;rw[zcg _ _ h2]at hd' hs';exact H.inj d d' r r' hd hd' hs hs' heq
 ·intro d r hr hs;by_cases hd:d=b
  ·subst hd;rw[zaE]at hr hs;cases hr;simp[Real]at hs
  ·rw[zcg _ _ hd]at hr hs;exact H.sep d r hr hs
 ·intro d r hr hs;by_cases hd:d=b
  ·subst hd;rw[zaE]at hr hs;cases hr;simp[Real]at hs
  ·rw[zcg _ _ hd]at hr hs;exact .inr ⟨d,r,hr,hs,rfl⟩
theorem HRel.freeze(H:HRel h ρ m w){b:Nat}{p:Nat × Nat}(e:ρ b=some p)(hr:Real (m b) p):
  HRel (upd h p.1 w[p.1]?) ρ (upd m b .dead) w/\Step h ρ m w (upd h p.1 w[p.1]?) ρ (upd m b .dead) w:=by
 have hlt:=H.real_lt e hr;have hle:h.le (upd h p.1 w[p.1]?):=λB q hq=>by
  by_cases hB:B=p.1
  ·subst hB;rw[H.sep b p e hr]at hq;cases hq
  ·rw[zcg _ _ hB];exact hq
 obtain⟨K,S⟩:=H.kill (b:=b) (λhh=>by rw[hh]at hr;exact hr);refine⟨⟨?_,K.dom,?_,K.inj,?_⟩,⟨hle,?_,fw _,aQ _,λB hB _=>rfl,S.own⟩⟩
 ·intro B q hq;by_cases hB:B=p.1
  ·subst hB;rw[zaE]at hq;exact hq
  ·rw[zcg _ _ hB]at hq;exact H.pers B q hq
 ·intro c q hq;exact zaI.congr hle (fw _) rfl (K.own c q hq)
 ·intro c q hq hs;have hcb:c≠b:=λhh=>by subst hh;rw[zaE]at hs;exact hs
  rw[zcg _ _ hcb]at hs;rw[zcg _ _ (λhh=>hcb (H.inj c b q p hq e hs hr hh))];exact H.sep c q hq hs
 ·intro B hB hf;rw[zcg _ _ (λhh=>hf b p e hr hh.symm)]
end
end Go.Abs
namespace Go.Abs
def iA{α:Type}(P:Program)(x:Sem α)(w:World)(a:α)(w':World):Prop:=x.run P w=.ok a w'
section
variable {P:Program} {w w' w'':World}
theorem uu{α β:Type}{f:α->Sem β}{a:α}:∀{x:Sem α} {w w':World},iA P x w a w'->(x.bind f).run P w=(f a).run P w'
 |.pure b,w,w',h=>by simp[iA,Sem.run]at h;obtain⟨rfl,rfl⟩:=h;rfl
 | .load m p k,w,w',h=>by
   simp only[iA,Sem.run]at h;simp only[Sem.bind,Sem.run];split at h
   · exact uu h
   · split at h
     · exact uu h
     · cases h
 | .store m p v k,w,w',h=>by
   simp only[Sem.bind];unfold iA at h
   cases v<;>simp only[Sem.run]at h⊢<;>first
     |(cases h;done)
     | (split at h
        · split at h
          · cases h
          · rename_i hf;simp only[hf];exact uu h
        · split at h
          · exact uu h
          · cases h)
 |.new o k,w,w',h=>by simp only[iA,Sem.run]at h;simp only[Sem.bind,Sem.run];exact uu h
 |.shape r k,w,w',h=>by simp only[iA,Sem.run]at h;simp only[Sem.bind,Sem.run];exact uu h
 |.freeze a n k,w,w',h=>by simp only[iA,Sem.run]at h;simp only[Sem.bind,Sem.run];exact uu h
 |.frozen a k,w,w',h=>by simp only[iA,Sem.run]at h;simp only[Sem.bind,Sem.run];exact uu h
 | .getObj r k,w,w',h=>by
   simp only[iA,Sem.run]at h;simp only[Sem.bind,Sem.run];split at h
   · cases h
   · exact uu h
   · cases h
 | .setObj r o k,w,w',h=>by
   simp only[iA,Sem.run]at h;simp only[Sem.bind,Sem.run];split at h
   · cases h
   · exact uu h
   · cases h
 | .choose q k,w,w',h=>by
   simp only[iA,Sem.run]at h;simp only[Sem.bind,Sem.run];split at h
   · rename_i hq;rw[aC hq];exact uu h
   · rename_i hq;rw[aB hq];exact uu h
 |.sys c k,w,w',h=>by simp only[iA,Sem.run]at h;simp only[Sem.bind,Sem.run];exact uu h
 |.program k,w,w',h=>by simp only[iA,Sem.run]at h;simp only[Sem.bind,Sem.run];exact uu h
 |.mark m k,w,w',h=>by simp only[iA,Sem.run]at h;simp only[Sem.bind,Sem.run];exact uu h
 |.halt x,w,w',h=>by simp[iA,Sem.run]at h
theorem iA.bind{α β:Type}{x:Sem α}{f:α->Sem β}{a:α}{b:β}(h:iA P x w a w')(k:iA P (f a) w' b w''):iA P (x>>=f) w b w'':=by
 show(x.bind f).run P w=_;rw[uu h];exact k
theorem iA.pure{α:Type}(a:α):iA P (Pure.pure a) w a w:=rfl
theorem iA.map{α β:Type}{x:Sem α}{f:α->β}{a:α}(h:iA P x w a w'):iA P (Functor.map f x) w (f a) w':=by
 show iA P (x>>=λa=>Pure.pure (f a)) w (f a) w';exact h.bind (iA.pure _)
theorem iA.program:iA P program w P w:=rfl
theorem iA.typeInfo{t:TypeId}{i:TypeInfo}(h:P.info? t=some i):iA P (typeInfo t) w i w:=by
 simp[iA,Go.typeInfo,Bind.bind,Sem.bind,Sem.run,Go.program,h,Pure.pure]
theorem iA.underlying{t:TypeId}{d:TypeDesc}(h:P.underlying t=some d):iA P (underlying t) w d w:=by
 simp[iA,Go.underlying,Bind.bind,Sem.bind,Sem.run,Go.program,h,Pure.pure]
theorem iA.sizeOf{t:TypeId}{i:TypeInfo}(h:P.info? t=some i):iA P (sizeOf t) w i.size w:=(iA.typeInfo h).bind (iA.pure _)
theorem iA.zeroValue{t:TypeId}{i:TypeInfo}{z:Value}(h:P.info? t=some i)(hz:i.zero=some z):iA P (zeroValue t) w z w:=by
 unfold Go.zeroValue;refine(iA.typeInfo h).bind ?_;simp only[hz];exact iA.pure _
theorem iA.load{a:Addr}{v:Value}(h:w.cell? a=some v):iA P (load a) w v w:=by
 simp[iA,Go.load,Sem.run,h]
theorem iA.store{a:Addr}{u v:Value}(h:w.cell? a=some u)(hf:w.frozen? a=false)(h1:v.one1=true):iA P (store a v) w () (w.setCell a v):=by
 cases v<;>simp_all[iA,Go.store,Sem.run,Value.one1]
theorem iA.newObj(o:Obj):iA P (newObj o) w w.heap.size {w with heap:=w.heap.push o}:=rfl
theorem iA.getObj{r:Nat}{o:Obj}(h:w.heap[r]?=some o)(hc:∀c e f,o≠.cells c e f):iA P (getObj r) w o w:=by
 unfold iA;simp only[Go.getObj,Sem.run,h]
theorem iA.setObj{r:Nat}{o o':Obj}(h:w.heap[r]?=some o)(hc:∀c e f,o≠.cells c e f):iA P (setObj r o') w () {w with heap:=w.heap.setIfInBounds r o'}:=by
 unfold iA;simp only[Go.setObj,Sem.run,h]
theorem iA.mark(m:Mark):iA P (mark m) w () w:=rfl
theorem iA.askRoom(n:Nat):iA P (askRoom n) w () w:=by
 unfold Go.askRoom;split
 · exact iA.mark _
 · exact iA.pure _
theorem cell_of{B o:Nat}{c:Array Value}{T:TypeId}{fr:Nat × Nat}(h:w.heap[B]?=some (.cells c T fr)):w.cell? ⟨B,o,none⟩=c[o]?:=by
 simp[World.cell?,h]
theorem zlW{B o:Nat}{c:Array Value}{T:TypeId}(h:w.heap[B]?=some (.cells c T (0,0))):w.frozen? ⟨B,o,none⟩=false:=by
 simp[World.frozen?,h]
theorem addr_add(B o n:Nat):(⟨B,o,none⟩:Addr).add n=⟨B,o+n,none⟩:=by
 unfold Addr.add;split
 · simp[*]
 · rfl
theorem iA.loadCellsFrom (B o:Nat):∀(vs:List Value) (i:Nat) (acc:Array Value),(∀j v,vs[j]?=some v->w.cell? ⟨B,o+i+j,none⟩=some v)->
   iA P (loadCellsFrom ⟨B,o,none⟩ i vs.length acc) w (acc++vs.toArray) w
 |[],i,acc,_=>by simp[Go.loadCellsFrom];exact iA.pure _
 | v ::vs,i,acc,h=>by
   simp only[List.length_cons,Go.loadCellsFrom];refine iA.bind (a:=v) (w':=w) ?_ ?_
   · rw[addr_add];exact iA.load (by simpa using h 0 v (by simp))
   · have:=iA.loadCellsFrom B o vs (i+1) (acc.push v) (λj u hj=>by
       have:=h (j+1) u (by simpa using hj)
       rw[show o+(i+1)+j=o+i+(j+1)from by omega];exact this)
     have e:acc++(v::vs).toArray=acc.push v++vs.toArray:=by
       apply dD;simp
     rw[e];exact this
theorem iA.loadCells{B o:Nat}{vs:List Value}(h:∀j v,vs[j]?=some v->w.cell? ⟨B,o+j,none⟩=some v):iA P (loadCells ⟨B,o,none⟩ vs.length) w vs.toArray w:=by
 have:=iA.loadCellsFrom (P:=P) (w:=w) B o vs 0 #[] (by simpa using h);rw[show(#[]:Array Value)++vs.toArray=vs.toArray from by simp]at this;exact this
theorem iA.loadCells0(a:Addr)(w:World):iA P (Go.loadCells a 0) w (#[]:Array Value) w:=by
 unfold Go.loadCells Go.loadCellsFrom;exact iA.pure _
def splice{α:Type}:List α->Nat->List α->List α
 |cs,_,[]=>cs
 |cs,o,v::vs=>splice (cs.set o v) (o+1) vs
theorem BP{α:Type}:∀(vs cs:List α) (o:Nat),(splice cs o vs).length=cs.length
 |[],cs,o=>rfl
 |v::vs,cs,o=>by simp[splice,BP vs]
def World.cellsAt(w:World)(B:Nat)(vs:List Value)(T:TypeId):World:={w with heap:=w.heap.setIfInBounds B (.cells vs.toArray T (0,0))}
theorem setCell_eq{B o:Nat}{vs:List Value}{T:TypeId}(h:w.heap[B]?=some (.cells vs.toArray T (0,0)))(v:Value):
   w.setCell ⟨B,o,none⟩ v=World.cellsAt w B (vs.set o v) T:=by
 have hB:B<w.heap.size:=by
   rcases aW B w.heap.size with h1|h1
   · exact h1
   · rw[aj h1]at h;cases h
 unfold World.setCell World.cellsAt;congr 1;apply Array.ext_getElem?;intro i;rw[Array.getElem?_modify];by_cases hi:B=i
 · subst hi;rw[aC rfl,h,dE,aC hB];simp
 · rw[aB hi,bS hi]
theorem zj8{B:Nat}{vs:List Value}{T:TypeId}(hB:B<w.heap.size):(World.cellsAt w B vs T).heap[B]?=some (.cells vs.toArray T (0,0)):=by
 simp[World.cellsAt,hB]
theorem ziB(B:Nat)(vs us:List Value)(T:TypeId):World.cellsAt (World.cellsAt w B vs T) B us T=World.cellsAt w B us T:=by
 unfold World.cellsAt;simp
theorem iA.storeCells {B:Nat} {T:TypeId} (o:Nat):∀(vs:List Value) (i:Nat) (cs:List Value) (w:World),w.heap[B]?=some (.cells cs.toArray T (0,0))->o+i+vs.length<=cs.length->
   (∀v,v∈vs->v.one1=true)->vs≠[]->iA P (storeCells ⟨B,o,none⟩ vs i) w () (World.cellsAt w B (splice cs (o+i) vs) T)
 |[],i,cs,w,_,_,_,h0=>absurd rfl h0
 | v ::vs,i,cs,w,h,hl,h1,_=>by
   simp only[Go.storeCells];have hB:B<w.heap.size:=by
     rcases aW B w.heap.size with h1|h1
     · exact h1
     · rw[aj h1]at h;cases h
   simp only[List.length_cons]at hl;have hs:iA P (Go.store ((⟨B,o,none⟩:Addr).add i) v) w () (World.cellsAt w B (cs.set (o+i) v) T):=by
     rw[addr_add,<-setCell_eq h];have hc:w.cell? ⟨B,o+i,none⟩=some cs[o+i]:=by
       rw[cell_of h];simp[aA (by omega:o+i<cs.length)]
     exact iA.store hc (zlW h) (h1 v (by simp))
   refine hs.bind ?_;cases vs with
   |nil=>simp only[Go.storeCells,splice];exact iA.pure _
   | cons u us=>
     have:=iA.storeCells o (u::us) (i+1) (cs.set (o+i) v) (World.cellsAt w B (cs.set (o+i) v) T) (zj8 hB)
       (by simp at hl⊢;omega) (λx hx=>h1 x (by simp[hx])) (by simp)
     rw[ziB]at this;exact this
end
abbrev fK:=@iA.pure
abbrev fM:=@iA.bind
abbrev fZ:=@iA.underlying
abbrev gF:=@iA.sizeOf
abbrev gG:=@iA.zeroValue
abbrev gI:=@iA.typeInfo
abbrev gK:=@iA.loadCells
abbrev gM:=@iA.newObj
abbrev gN:=@iA.getObj
end Go.Abs
namespace Go.Abs
def Same(w w':World):Prop:=w'.os=w.os/\w'.tape=w.tape/\w'.output=w.output
theorem Same.refl(w:World):Same w w:=⟨rfl,rfl,rfl⟩
theorem Same.trans{a b c:World}(h:Same a b)(k:Same b c):Same a c:=⟨k.1.trans h.1,k.2.1.trans h.2.1,k.2.2.trans h.2.2⟩
def pG:Hp->List (Nat × Blk)->Hp
|m,[]=>m
|m,(b,x)::l=>pG (upd m b x) l
def Kq(c:Nat):Int:=if 9<=c/\c<=13\/c=32 then 1 else 0
def yR (P : Program) (h : PH) : Prop := ∀ g, P.globalNamed "strings.asciiSpace" = some g -> ∃ o, h g = some o /\ ∀ w : World, w.heap[g]? = some o -> ∀ c, c < 256 -> w.cell? ⟨g, c, none⟩ = some (.int .u8 (Kq c))
theorem yR.mono{P:Program}{h h':PH}(k:yR P h)(le:h.le h'):yR P h':=λg e=>by
 obtain⟨o,h1,h2⟩:=k g e;exact⟨o,le g o h1,h2⟩
def ic(P:Program)(o:Oper)(get:Nat->AV)(m:Hp)(rd:List Nat)(wr:List (Nat × Blk))(v:AV):Prop:=
∀ m':Hp,(∀b,b∈rd->m' b=m b)->(∀x,x∈wr->m' x.1=m x.1)->∀(h:PH) (ρ:RM) (w:World) (a:Act),HRel h ρ m' w.heap->yR P h->
 (∀k,Operand.tmp k∈o.op.operands->RepV h ρ (get k) (a.tmps.getD k undef))->
 ∀(next:Act->World->Prop) (Q:Exit->Act->World->Prop),
  (∀(h':PH) (ρ':RM) (w':World) (vC:Value),Step h ρ m' w.heap h' ρ' (pG m' wr) w'.heap->HRel h' ρ' (pG m' wr) w'.heap->Same w w'->RepV h' ρ' v vC->next (a.put o.dst vC) w')->
  o.wp P a w next Q
section
variable {P:Program} {o:Oper} {get:Nat->AV} {m:Hp} {rd:List Nat} {wr:List (Nat × Blk)} {v:AV}
theorem ic.of_value(H:∀m':Hp,(∀b,b∈rd->m' b=m b)->(∀x,x∈wr->m' x.1=m x.1)->∀(h:PH) (ρ:RM) (w:World) (a:Act),HRel h ρ m' w.heap->
  (∀k,Operand.tmp k∈o.op.operands->RepV h ρ (get k) (a.tmps.getD k undef))->
  ∃(h':PH) (ρ':RM) (w':World) (vC:Value),iA P (execOp a.eval o) w (.value vC) w'/\Step h ρ m' w.heap h' ρ' (pG m' wr) w'.heap/\HRel h' ρ' (pG m' wr) w'.heap/\Same w w'/\RepV h' ρ' v vC):
  ic P o get m rd wr v:=by
 intro m' h1 h2 h ρ w a hr _ hg next Q hn;obtain⟨h',ρ',w',vC,r,s,k,e,p⟩:=H m' h1 h2 h ρ w a hr hg;unfold Oper.wp;rw[show(execOp a.eval o).run P w=.ok (.value vC) w' from r];exact hn h' ρ' w' vC s k e p
theorem ic.of_skip(H:∀m':Hp,(∀b,b∈rd->m' b=m b)->(∀x,x∈wr->m' x.1=m x.1)->∀(h:PH) (ρ:RM) (w:World) (a:Act),HRel h ρ m' w.heap->
  (∀k,Operand.tmp k∈o.op.operands->RepV h ρ (get k) (a.tmps.getD k undef))->
  ∃(h':PH) (ρ':RM) (w':World),iA P (execOp a.eval o) w .skip w'/\Step h ρ m' w.heap h' ρ' (pG m' wr) w'.heap/\HRel h' ρ' (pG m' wr) w'.heap/\Same w w'):
  ic P o get m rd wr (.c (.d .any)):=by
 intro m' h1 h2 h ρ w a hr _ hg next Q hn;obtain⟨h',ρ',w',r,s,k,e⟩:=H m' h1 h2 h ρ w a hr hg;unfold Oper.wp;rw[show(execOp a.eval o).run P w=.ok .skip w' from r];exact hn h' ρ' w' undef s k e trivial
theorem ic.of_pure(H:∀m':Hp,(∀b,b∈rd->m' b=m b)->∀(h:PH) (ρ:RM) (w:World) (a:Act),HRel h ρ m' w.heap->
  (∀k,Operand.tmp k∈o.op.operands->RepV h ρ (get k) (a.tmps.getD k undef))->∃vC,iA P (execOp a.eval o) w (.value vC) w/\RepV h ρ v vC):ic P o get m rd [] v:=
 ic.of_value λm' h1 h2 h ρ w a hr hg=>
  let⟨vC,r,p⟩:=H m' h1 h ρ w a hr hg
  ⟨h,ρ,w,vC,r,Step.refl _ _ _ _,hr,Same.refl w,p⟩
end
inductive MX where
|t (k:Nat)
|k (x:D)
def X(get:Nat->AV):MX->AV
|.t k=>get k
|.k x=>.c (.d x)
def IA:D->Value->Bool
|.int k n,.int k' n'=>decide (k=k')&&decide (n=n')&&decide (k.min<=n)&&decide (n<=k.max)
|.bool b,.bool b'=>b==b'
|.str s,.string s'=>decide (s=s')&&decide (s.size<=zah)
|.sl _ _ [],.slice none 0 0=>true
|.sc (.pointer none),.pointer none=>true
|.sc .nilFunc,.nilFunc=>true
|.sc .nilIface,.nilIface=>true
|.sc (.map none),.map none=>true
|_,_=>false
theorem R4{x:D}{v:Value}(h:IA x v=true)(ph:PH):RepD ph x v:=by
 unfold IA at h;split at h
 ·simp only[aG,aI]at h;obtain⟨⟨⟨rfl,rfl⟩,h1⟩,h2⟩:=h;simp[RepD,h1,h2]
 ·simp at h;simp[RepD,h]
 ·simp at h;simp[RepD,h.1];rw[<-h.1];exact h.2
 ·unfold RepD;exact⟨none,0,rfl,aQ _,λ_=>rfl,by simp,λ_=>⟨rfl,rfl⟩,λp hp=>(by cases hp),(by simp[RepE])⟩
 ·simp[RepD]
 ·simp[RepD]
 ·simp[RepD]
 ·simp[RepD]
 ·cases h
def iI:MX->Operand->Bool
|.t k,.tmp k'=>k==k'
|.k x,.const v=>IA x v
|.k (.fn (.func f) []),.func f'=>f==f'
|_,_=>false
theorem jf{x:MX}{o:Operand}(h:iI x o=true){ph:PH}{ρ:RM}{get:Nat->AV}{a:Act}(hg:∀k,o=.tmp k->RepV ph ρ (get k) (a.tmps.getD k undef)):
  RepV ph ρ (X get x) (a.eval o):=by
 unfold iI at h;split at h
 ·simp at h;subst h;exact hg _ rfl
 ·simp only[X,RepV,RepC,Act.eval];exact R4 h ph
 ·simp at h;subst h;simp[X,RepV,RepC,RepD,RepL,Act.eval]
 ·cases h
def wK:List MX->List Operand->Bool
|[],[]=>true
|x::xs,o::os=>iI x o&&wK xs os
|_,_=>false
theorem Ep{ph:PH}{ρ:RM}{get:Nat->AV}{a:Act}:∀{xs:List MX} {os:List Operand},wK xs os=true->(∀k,Operand.tmp k∈os->RepV ph ρ (get k) (a.tmps.getD k undef))->
 zai ph ρ (xs.map (X get)) (os.map a.eval)
|[],[],_,_=>rfl
|x::xs,o::os,h,hg=>by
 simp only[wK,aG]at h;simp only[List.map_cons,zai];exact⟨jf h.1 (λk hk=>hg k (by simp[hk])),Ep h.2 (λk hk=>hg k (by simp[hk]))⟩
|[],_::_,h,_=>by simp[wK]at h
|_::_,[],h,_=>by simp[wK]at h
def D.one:D->Bool
|.any=>false
|.sc v=>v.one1
|_=>true
def AC.one:AC->Bool
|.d x=>x.one
|.op _=>false
|_=>true
def vJ:AV->Option (List AC)
|.c x=>if x.one then some [x]else none
|.ag cs=>some cs
|.tup _=>none
def jc:List AC->Option (List D)
|[]=>some []
|.d x::cs=>(jc cs).map (x:: ·)
|_::_=>none
@[simp] theorem R5(ds:List D):jc (ds.map .d)=some ds:=by
 induction ds with
 |nil=>rfl
 |cons d ds ih=>simp[jc,ih]
theorem Du:∀{cs:List AC} {ds:List D},jc cs=some ds->cs=ds.map .d
|[],ds,h=>by simp[jc]at h;simp[<-h]
|.d x::cs,ds,h=>by
 simp only[jc,aV]at h;obtain⟨l,h1,h2⟩:=h;rw[<-h2,Du h1];rfl
|.ptr .. ::_,_,h=>by simp[jc]at h
|.ept .. ::_,_,h=>by simp[jc]at h
|.msl .. ::_,_,h=>by simp[jc]at h
|.map .. ::_,_,h=>by simp[jc]at h
|.fn .. ::_,_,h=>by simp[jc]at h
|.op .. ::_,_,h=>by simp[jc]at h
def cellsD(v:AV):Option (List D):=(vJ v).bind jc
theorem D.one_ok{h:PH}{x:D}{v:Value}(r:RepD h x v)(h1:x.one=true):v.one1=true:=by
 cases x<;>simp only[D.one]at h1
 case any=>cases h1
 case int=>simp only[RepD]at r;rw[r.1];rfl
 case bool=>simp only[RepD]at r;rw[r];rfl
 case str=>simp only[RepD]at r;rw[r.1];rfl
 case sc u=>simp only[RepD]at r;rw[r];exact h1
 case sl=>simp only[RepD]at r;obtain⟨a,cap,e,_⟩:=r;rw[e];rfl
 case rp=>simp only[RepD]at r;obtain⟨a,cap,e,_⟩:=r;rw[e];rfl
 case fn=>simp only[RepD]at r;obtain⟨a,e,_⟩:=r;rw[e];rfl
 case ifc=>simp only[RepD]at r;obtain⟨a,e,_⟩:=r;rw[e];rfl
theorem AC.one_ok{h:PH}{ρ:RM}{x:AC}{v:Value}(r:RepC h ρ x v)(h1:x.one=true):v.one1=true:=by
 cases x<;>simp only[AC.one]at h1
 case d=>simp only[RepC]at r;exact D.one_ok r h1
 case ptr=>simp only[RepC]at r;obtain⟨a,_,e⟩:=r;rw[e];rfl
 case ept=>simp only[RepC]at r;obtain⟨a,_,e⟩:=r;rw[e];rfl
 case msl=>simp only[RepC]at r;obtain⟨p,a,_,e,_⟩:=r;rw[e];rfl
 case map=>simp only[RepC]at r;obtain⟨a,_,e⟩:=r;rw[e];rfl
 case fn=>simp only[RepC]at r;obtain⟨a,e,_⟩:=r;rw[e];rfl
 case op=>cases h1
theorem zkW{v:Value}(h:v.one1=true):v.cells=#[v]:=by cases v<;>simp_all[Value.one1,Value.cells]
theorem iJ.one{h:PH}{ρ:RM}:∀{cs:List AC} {vs:List Value},iJ h ρ cs vs->vs.length=cs.length->∀v,v∈vs->v.one1=true
|[],[],_,_,v,hv=>by cases hv
|[],_::_,_,e,_,_=>by simp at e
|_::_,[],r,_,_,_=>by simp[iJ]at r
|c::cs,u::vs,r,e,v,hv=>by
 simp only[iJ]at r;cases aN.1 hv with
 |inl e1=>rw[e1];exact r.1.1
 |inr e1=>exact iJ.one r.2 (by simpa using e) v e1
theorem Dv{h:PH}{ρ:RM}{v:AV}{x:Value}{cs:List AC}(r:RepV h ρ v x)(e:vJ v=some cs):∃vs:List Value,x.cells=vs.toArray/\vs.length=cs.length/\iJ h ρ cs vs:=by
 cases v with
 | c y=>
  simp only[vJ]at e;split at e
  ·rename_i h1;cases e;simp only[RepV]at r;have hx:=AC.one_ok r h1;exact⟨[x],by rw[zkW hx],rfl,by simp[iJ,hx,r]⟩
  ·cases e
 |ag ds=>
  simp only[vJ]at e;cases e;simp only[RepV]at r;obtain⟨vs,e1,e2,e3⟩:=r;exact⟨vs,by rw[e1];rfl,e2,e3⟩
 |tup _=>cases e
theorem Kr{h:PH}{ρ:RM}{v:AV}{x:Value}{ds:List D}(r:RepV h ρ v x)(e:cellsD v=some ds):∃vs:List Value,x.cells=vs.toArray/\vs.length=ds.length/\RepL h ds vs:=by
 unfold cellsD at e;cases hc:vJ v with
 |none=>rw[hc]at e;cases e
 |some cs=>
  rw[hc]at e;obtain⟨vs,e1,e2,e3⟩:=Dv r hc;have:=Du e;subst this;exact⟨vs,e1,by simpa using e2,iJ.to_D e3⟩
def AB:TypeDesc->Bool
|.struct _|.array _ _=>true
|_=>false
def xC(P:Program)(T:TypeId):Option (Bool × Nat):=
 match P.underlying T,P.info? T with
 |some d,some i=>some (AB d,i.size)
 |_,_=>none
theorem IB{P:Program}{T:TypeId}{b:Bool}{n:Nat}(h:xC P T=some (b,n)):∃d i,P.underlying T=some d/\P.info? T=some i/\AB d=b/\i.size=n:=by
 unfold xC at h;split at h
 ·rename_i d i h1 h2;cases h;exact⟨d,i,h1,h2,rfl,rfl⟩
 ·cases h
theorem iA.isAgg{P:Program}{w:World}{T:TypeId}{d:TypeDesc}(h:P.underlying T=some d):iA P (isAgg T) w (AB d) w:=by
 unfold Go.isAgg;refine(fZ h).bind ?_;cases d<;>exact fK _
abbrev gD:=@Same.refl
end Go.Abs
namespace Go.Abs
section
variable {P:Program} {w:World}
theorem zi2 (op:BinOp) (t:TypeId) (x y:Operand) (a b:Value) (h1:¬(a=.nilIface/\b=.nilIface)) (h2:∀c d,¬(a=.agg c/\b=.agg d)):iA P (eqGuard op t x y a b) w () w:=by
 cases op<;>first
   |exact fK ()
   |(cases a<;>first
       |exact fK ()
       |(cases b<;>first
           |exact fK ()
           |exact absurd ⟨rfl,rfl⟩ h1
           |exact absurd ⟨rfl,rfl⟩ (h2 _ _)))
theorem IC(k:IntKind)(n:Int):k.min<=k.wrap n/\k.wrap n<=k.max:=by
 cases k<;>simp only[IntKind.wrap,IntKind.min,IntKind.max,IntKind.bits,IntKind.signed]<;>constructor<;>simp<;>(try split)<;>omega
theorem Kt{k:IntKind}{n:Int}(h1:k.min<=n)(h2:n<=k.max):k.wrap n=n:=by
 cases k<;>simp only[IntKind.wrap,IntKind.min,IntKind.max,IntKind.bits,IntKind.signed]at* <;>simp at* <;>(try split)<;>omega
def Er(op:BinOp)(k:IntKind)(a b:Int):Option D:=
 match op with
 |.add=>some (.int k (k.wrap (a+b)))
 |.sub=>some (.int k (k.wrap (a-b)))
 |.mul=>some (.int k (k.wrap (a*b)))
 |.and=>some (.int k (k.wrap (BitVec.ofInt k.bits a&&&BitVec.ofInt k.bits b).toNat))
 |.or=>some (.int k (k.wrap (BitVec.ofInt k.bits a|||BitVec.ofInt k.bits b).toNat))
 |.xor=>some (.int k (k.wrap (BitVec.ofInt k.bits a^^^BitVec.ofInt k.bits b).toNat))
 |.andNot=>some (.int k (k.wrap (BitVec.ofInt k.bits a&&& ~~~(BitVec.ofInt k.bits b)).toNat))
 |.eql=>some (.bool (decide (a=b)))
 |.neq=>some (.bool (decide (¬a=b)))
 |.lss=>some (.bool (decide (a<b)))
 |.leq=>some (.bool (decide (a<=b)))
 |.gtr=>some (.bool (decide (b<a)))
 |.geq=>some (.bool (decide (b<=a)))
 |_=>none
theorem zn2{op:BinOp}{k:IntKind}{a b:Int}{d:D}(h:Er op k a b=some d)(T:TypeId)(ph:PH):∃v,iA P (binOp op T (.int k a) (.int k b)) w v w/\RepD ph d v:=by
 have key:∀(msg:String) (x:Sem Value),binOp op T (.int k a) (.int k b)=(if k≠k then stuck msg else x)->∀v,x=Pure.pure v->iA P (binOp op T (.int k a) (.int k b)) w v w:=by
   intro msg x hx v hv;rw[hx,aB (by simp),hv];exact fK _
 cases op<;>simp only[Er]at h<;>first
   |(cases h;done)
   | (cases h
      refine⟨_,key _ _ rfl _ rfl,?_⟩;unfold RepD
      exact⟨rfl,IC _ _⟩)
   | (cases h
      refine⟨_,key _ _ rfl _ rfl,?_⟩;unfold RepD;refine dP Value.bool ?_;rw[dO]
      try simp)
theorem znG {op:BinOp} {k:IntKind} {a b:Int} (hop:op=.quo\/op=.rem) (hb:b≠0) (ha:k.min<=a/\a<=k.max) (hb':k.min<=b/\b<=k.max) (T:TypeId) (ph:PH):
   ∃v,iA P (binOp op T (.int k a) (.int k b)) w v w/\RepD ph (.int k (if op=.quo then k.wrap (a.tdiv b)else a.tmod b)) v:=by
 have key:∀(msg:String) (x:Sem Value),binOp op T (.int k a) (.int k b)=(if k≠k then stuck msg else x)->∀v,iA P x w v w->iA P (binOp op T (.int k a) (.int k b)) w v w:=by
   intro msg x hx v hv;rw[hx,aB (by simp)];exact hv
 rcases hop with rfl|rfl
 · refine⟨_,key _ _ rfl _ (by unfold Op.intDiv;rw[aB hb];exact fK _),?_⟩;rw[aC rfl];unfold RepD;exact⟨rfl,IC _ _⟩
 · refine⟨_,key _ _ rfl _ (by unfold Op.intDiv;rw[aB hb];exact fK _),?_⟩;rw[aB (by decide)];unfold RepD;refine⟨rfl,?_,?_⟩
   · by_cases h0:0<=a
     · have:=fF b h0;have hm:k.min<=0:=by cases k<;>decide
       omega
     · have h1:(-a).tmod b= -(a.tmod b):=Int.neg_tmod ..;have h2:=fF (a:= -a) b (by omega);have h3:(-a).tmod b<= -a:=by
         have e:((-a).toNat:Int)= -a:=by omega
         have:=Int.natAbs_tmod (-a) b;have h4:((-a).tmod b).natAbs<=(-a).natAbs:=by rw[this];exact Nat.mod_le _ _
         omega
       omega
   · by_cases h0:0<=a
     · have h2:=fF b h0;have:=Int.natAbs_tmod a b;have h4:(a.tmod b).natAbs<=a.natAbs:=by rw[this];exact Nat.mod_le _ _
       omega
     · have h1:(-a).tmod b= -(a.tmod b):=Int.neg_tmod ..;have h2:=fF (a:= -a) b (by omega);have hm:0<=k.max:=by cases k<;>decide
       omega
theorem toList_inj(a b:fI):(a.toList==b.toList)=decide (a=b):=by
 rw[dO];simp only[aY,aI];constructor
 · intro h;rw[ByteArray.toList_eq,ByteArray.toList_eq]at h;exact Go.WideShapes.bytes_inj h
 · intro h;rw[h]
def Es(op:BinOp)(a b:fI):Option D:=
 match op with
 |.eql=>some (.bool (decide (a=b)))
 |.neq=>some (.bool (!decide (a=b)))
 |.lss=>some (.bool (Op.bytesLess a.data.toList b.data.toList))
 |.leq=>some (.bool (Op.bytesLess a.data.toList b.data.toList||decide (a=b)))
 |.gtr=>some (.bool (!(Op.bytesLess a.data.toList b.data.toList||decide (a=b))))
 |.geq=>some (.bool (!Op.bytesLess a.data.toList b.data.toList))
 |_=>none
theorem zn3{op:BinOp}{a b:fI}{d:D}(h:Es op a b=some d)(T:TypeId)(ph:PH):∃v,iA P (binOp op T (.string a) (.string b)) w v w/\RepD ph d v:=by
 have key:binOp op T (.string a) (.string b)=Op.stringOp op a b:=by cases op<;>rfl
 rw[key];unfold Op.stringOp;rw[toList_inj,ByteArray.toList_eq,ByteArray.toList_eq]
 cases op<;>simp only[Es]at h<;>first
   |(cases h;done)
   |(cases h;exact⟨_,fK _,rfl⟩)
theorem vK{a b:fI}(h:a.size+b.size<=zah)(T:TypeId)(ph:PH):∃v,iA P (binOp .add T (.string a) (.string b)) w v w/\RepD ph (.str (a++b)) v:=by
 refine⟨.string (a++b),?_,?_⟩
 · show iA P (Op.stringOp .add a b) w _ w;unfold Op.stringOp;simp only;rw[aB]
   · exact fK _
   · unfold zah at h;have:IntKind.i64.max=9223372036854775807:=by decide
     rw[this];simp only[gt_iff_lt,Int.not_lt];omega
 · unfold RepD;exact⟨rfl,by rw[ax];exact h⟩
def Et(op:BinOp)(a b:Bool):Option D:=
 match op with
 |.eql=>some (.bool (a==b))
 |.neq=>some (.bool (!(a==b)))
 |_=>none
theorem zn4{op:BinOp}{a b:Bool}{d:D}(h:Et op a b=some d){T:TypeId}(hT:P.underlying T=some .bool)(ph:PH):∃v,iA P (binOp op T (.bool a) (.bool b)) w v w/\RepD ph d v:=by
 have eq:iA P (Op.equal T (.bool a) (.bool b)) w (a==b) w:=by
   unfold Op.equal Op.maxDepth Op.equalIn;refine(fZ hT).bind ?_;exact fK _
 cases op<;>simp only[Et]at h<;>first
   |(cases h;done)
   |(cases h;exact⟨_,eq.bind (fK _),rfl⟩)
end
end Go.Abs
namespace Go.Abs
mutual
def AC.ren(f:Nat->Nat):AC->AC
|.d x=>.d x
|.ptr b off=>.ptr (f b) off
|.ept s b i off=>.ept s (f b) i off
|.msl s b off len=>.msl s (f b) off len
|.map b=>.map (f b)
|.fn g caps=>.fn g (AC.rens f caps)
|.op r=>.op r
def AC.rens(f:Nat->Nat):List AC->List AC
|[]=>[]
|c::cs=>c.ren f::AC.rens f cs
end
mutual
def AC.lt(n:Nat):AC->Bool
|.d _=>true
|.ptr b _=>decide (b<n)
|.ept _ b _ _=>decide (b<n)
|.msl _ b _ _=>decide (b<n)
|.map b=>decide (b<n)
|.fn _ caps=>AC.lts n caps
|.op _=>true
def AC.lts(n:Nat):List AC->Bool
|[]=>true
|c::cs=>c.lt n&&AC.lts n cs
end
mutual
def AV.ren(f:Nat->Nat):AV->AV
|.c x=>.c (x.ren f)
|.ag cs=>.ag (AC.rens f cs)
|.tup vs=>.tup (AV.rens f vs)
def AV.rens(f:Nat->Nat):List AV->List AV
|[]=>[]
|v::vs=>v.ren f::AV.rens f vs
end
mutual
def AV.lt(n:Nat):AV->Bool
|.c x=>x.lt n
|.ag cs=>AC.lts n cs
|.tup vs=>AV.lts n vs
def AV.lts(n:Nat):List AV->Bool
|[]=>true
|v::vs=>v.lt n&&AV.lts n vs
end
def Blk.ren(f:Nat->Nat):Blk->Blk
|.non=>.non
|.dead=>.dead
|.box cs=>.box (AC.rens f cs)
|.arr s es=>.arr s (es.map (AC.rens f))
|.map es=>.map (es.map λe=>(e.1,e.2.ren f))
|.pin t b=>.pin t (f b)
def Blk.lt(n:Nat):Blk->Bool
|.non=>true
|.dead=>true
|.box cs=>AC.lts n cs
|.arr _ es=>es.all (AC.lts n)
|.map es=>es.all λe=>e.2.lt n
|.pin _ b=>decide (b<n)
@[simp] theorem AC.rens_D(f:Nat->Nat)(ds:List D):AC.rens f (ds.map .d)=ds.map .d:=by
 induction ds with
 |nil=>rfl
 |cons d ds ih=>simp[AC.rens,AC.ren,ih]
@[simp] theorem AC.lts_D(n:Nat)(ds:List D):AC.lts n (ds.map .d)=true:=by
 induction ds with
 |nil=>rfl
 |cons d ds ih=>simp[AC.lts,AC.lt,ih]
def qF(f:Nat->Nat)(n:Nat)(ρ:RM):RM:=λb=>if b<n then ρ (f b)else none
theorem Eu{f:Nat->Nat}{n:Nat}{ρ:RM}{b:Nat}{p:Nat × Nat}(hb:b<n)(h:ρ (f b)=some p):qF f n ρ b=some p:=by
 unfold qF;rw[aC hb];exact h
section
variable {h:PH} {ρ:RM} {f:Nat->Nat} {n:Nat}
mutual
theorem RepC.ren:∀(x:AC) (v:Value),x.lt n=true->RepC h ρ (x.ren f) v->RepC h (qF f n ρ) x v
|.d x,v,_,r=>by simpa only[AC.ren,RepC]using r
|.ptr b off,v,hl,r=>by
 simp only[AC.lt,aI]at hl;simp only[AC.ren,RepC]at r⊢;obtain⟨p,h1,h2⟩:=r;exact⟨p,Eu hl h1,h2⟩
|.ept s b i off,v,hl,r=>by
 simp only[AC.lt,aI]at hl;simp only[AC.ren,RepC]at r⊢;obtain⟨p,h1,h2⟩:=r;exact⟨p,Eu hl h1,h2⟩
|.msl s b off len,v,hl,r=>by
 simp only[AC.lt,aI]at hl;simp only[AC.ren,RepC]at r⊢;obtain⟨p,a,h1,h2⟩:=r;exact⟨p,a,Eu hl h1,h2⟩
|.map b,v,hl,r=>by
 simp only[AC.lt,aI]at hl;simp only[AC.ren,RepC]at r⊢;obtain⟨p,h1,h2⟩:=r;exact⟨p,Eu hl h1,h2⟩
| .fn g caps,v,hl,r=>by
 simp only[AC.lt]at hl;simp only[AC.ren,RepC]at r⊢;obtain⟨vs,h1,h2,h3⟩:=r;have e:(AC.rens f caps).length=caps.length:=by
  have:∀(cs:List AC),(AC.rens f cs).length=cs.length:=by
   intro cs;induction cs with
   |nil=>rfl
   |cons c cs ih=>simp[AC.rens,ih]
  exact this caps
 exact⟨vs,h1,by rw[h2,e],iJ.ren caps vs hl h3⟩
|.op q,v,_,r=>by simpa only[AC.ren,RepC]using r
theorem iJ.ren:∀(cs:List AC) (vs:List Value),AC.lts n cs=true->iJ h ρ (AC.rens f cs) vs->iJ h (qF f n ρ) cs vs
|[],_,_,_=>by simp[iJ]
|_::_,[],_,r=>by simp[AC.rens,iJ]at r
|c::cs,v::vs,hl,r=>by
 simp only[AC.lts,aG]at hl;simp only[AC.rens,iJ]at r⊢;exact⟨⟨r.1.1,RepC.ren c v hl.1 r.1.2⟩,iJ.ren cs vs hl.2 r.2⟩
end
theorem AC.rens_length(cs:List AC):(AC.rens f cs).length=cs.length:=by
 induction cs with
 |nil=>rfl
 |cons c cs ih=>simp[AC.rens,ih]
mutual
theorem RepV.ren:∀(x:AV) (v:Value),x.lt n=true->RepV h ρ (x.ren f) v->RepV h (qF f n ρ) x v
|.c x,v,hl,r=>by
 simp only[AV.lt]at hl;simp only[AV.ren,RepV]at r⊢;exact RepC.ren x v hl r
|.ag cs,v,hl,r=>by
 simp only[AV.lt]at hl;simp only[AV.ren,RepV]at r⊢;obtain⟨vs,h1,h2,h3⟩:=r;exact⟨vs,h1,by rw[h2,AC.rens_length],iJ.ren cs vs hl h3⟩
|.tup xs,v,hl,r=>by
 simp only[AV.lt]at hl;simp only[AV.ren,RepV]at r⊢;obtain⟨vs,h1,h2⟩:=r;exact⟨vs,h1,zai.ren xs vs hl h2⟩
theorem zai.ren:∀(xs:List AV) (vs:List Value),AV.lts n xs=true->zai h ρ (AV.rens f xs) vs->zai h (qF f n ρ) xs vs
|[],vs,_,r=>by simpa[AV.rens,zai]using r
|_::_,[],_,r=>by simp[AV.rens,zai]at r
|x::xs,v::vs,hl,r=>by
 simp only[AV.lts,aG]at hl;simp only[AV.rens,zai]at r⊢;exact⟨RepV.ren x v hl.1 r.1,zai.ren xs vs hl.2 r.2⟩
end
theorem iR.ren{s:Nat}:∀(es:List (List AC)) (vs:List Value),es.all (AC.lts n)=true->iR h ρ s (es.map (AC.rens f)) vs->iR h (qF f n ρ) s es vs
|[],_,_,_=>by simp[iR]
|e::es,vs,hl,r=>by
 simp only[List.all_cons,aG]at hl;simp only[List.map_cons,iR,AC.rens_length]at r⊢;exact⟨r.1,iJ.ren e vs hl.1 r.2.1,iR.ren es _ hl.2 r.2.2⟩
theorem RepM.ren:∀(es:List (D × AV)) (ms:List MapEntry),(es.all λe=>e.2.lt n)=true->RepM h ρ (es.map λe=>(e.1,e.2.ren f)) ms->RepM h (qF f n ρ) es ms
|[],ms,_,r=>by simpa[RepM]using r
|_::_,[],_,r=>by simp[RepM]at r
|e::es,x::ms,hl,r=>by
 simp only[List.all_cons,aG]at hl;simp only[List.map_cons,RepM]at r⊢;exact⟨⟨r.1.1,RepV.ren _ _ hl.1 r.1.2⟩,RepM.ren es ms hl.2 r.2⟩
theorem zaI.ren{p:Nat × Nat}{blk:Blk}{w:Heap}(hl:blk.lt n=true)(r:zaI h ρ p (blk.ren f) w):zaI h (qF f n ρ) p blk w:=by
 cases blk with
 |non=>trivial
 |dead=>trivial
 |box cs=>
  obtain⟨vs,T,h1,h2,h3⟩:=r;exact⟨vs,T,h1,by rw[h2,AC.rens_length],iJ.ren cs vs hl h3⟩
 |arr s es=>
  rcases r with⟨h1,h2⟩|⟨vs,T,h1,h2,h3,h4,h5⟩
  ·exact .inl ⟨h1,by simpa using h2⟩
  ·exact .inr ⟨vs,T,h1,h2,by simpa using h3,by simpa using h4,iR.ren es vs hl h5⟩
 |map es=>
  obtain⟨ms,ck,h1,h2,h3,h4⟩:=r;exact⟨ms,ck,h1,RepM.ren es ms hl h2,h3,h4⟩
 |pin t b=>
  simp only[Blk.lt,aI]at hl;exact⟨r.1,Eu hl r.2⟩
end
theorem Real.ren{f:Nat->Nat}{blk:Blk}{p:Nat × Nat}:Real (blk.ren f) p↔Real blk p:=by cases blk<;>simp[Blk.ren,Real]
def hpOf(bs:List Blk):Hp:=λb=>bs.getD b .non
def jJ(l:List Nat):Nat->Nat:=λb=>l.getD b 0
mutual
def AC.lv(p:Nat->Bool):AC->Bool
|.d _=>true
|.ptr b _=>p b
|.ept _ b _ _=>p b
|.msl _ b _ _=>p b
|.map b=>p b
|.fn _ caps=>AC.lvs p caps
|.op _=>true
def AC.lvs(p:Nat->Bool):List AC->Bool
|[]=>true
|c::cs=>c.lv p&&AC.lvs p cs
end
mutual
def AV.lv(p:Nat->Bool):AV->Bool
|.c x=>x.lv p
|.ag cs=>AC.lvs p cs
|.tup vs=>AV.lvs p vs
def AV.lvs(p:Nat->Bool):List AV->Bool
|[]=>true
|v::vs=>v.lv p&&AV.lvs p vs
end
def Blk.lv(p:Nat->Bool):Blk->Bool
|.non=>true
|.dead=>true
|.box cs=>AC.lvs p cs
|.arr _ es=>es.all (AC.lvs p)
|.map es=>es.all λe=>e.2.lv p
|.pin _ _=>false
theorem AC.lvs_D(p:Nat->Bool)(ds:List D):AC.lvs p (ds.map .d)=true:=by
 induction ds with
 |nil=>rfl
 |cons d ds ih=>simp[AC.lvs,AC.lv,ih]
section
variable {h:PH} {ρ ρ2:RM} {f f2:Nat->Nat} {p:Nat->Bool}
theorem AC.rens_len(f:Nat->Nat)(cs:List AC):(AC.rens f cs).length=cs.length:=by
 induction cs with
 |nil=>rfl
 |cons c cs ih=>simp[AC.rens,ih]
mutual
theorem RepC.mv(H:∀b q,p b=true->ρ (f b)=some q->ρ2 (f2 b)=some q):∀(x:AC) (v:Value),x.lv p=true->RepC h ρ (x.ren f) v->RepC h ρ2 (x.ren f2) v
|.d x,v,_,r=>by simpa only[AC.ren,RepC]using r
|.ptr b off,v,hl,r=>by
 simp only[AC.lv]at hl;simp only[AC.ren,RepC]at r⊢;obtain⟨q,h1,h2⟩:=r;exact⟨q,H b q hl h1,h2⟩
|.ept s b i off,v,hl,r=>by
 simp only[AC.lv]at hl;simp only[AC.ren,RepC]at r⊢;obtain⟨q,h1,h2⟩:=r;exact⟨q,H b q hl h1,h2⟩
|.msl s b off len,v,hl,r=>by
 simp only[AC.lv]at hl;simp only[AC.ren,RepC]at r⊢;obtain⟨q,a,h1,h2⟩:=r;exact⟨q,a,H b q hl h1,h2⟩
|.map b,v,hl,r=>by
 simp only[AC.lv]at hl;simp only[AC.ren,RepC]at r⊢;obtain⟨q,h1,h2⟩:=r;exact⟨q,H b q hl h1,h2⟩
|.fn g caps,v,hl,r=>by
 simp only[AC.lv]at hl;simp only[AC.ren,RepC]at r⊢;obtain⟨vs,h1,h2,h3⟩:=r;exact⟨vs,h1,by rw[h2,AC.rens_len,AC.rens_len],iJ.mv H caps vs hl h3⟩
|.op q,v,_,r=>by simpa only[AC.ren,RepC]using r
theorem iJ.mv(H:∀b q,p b=true->ρ (f b)=some q->ρ2 (f2 b)=some q):∀(cs:List AC) (vs:List Value),AC.lvs p cs=true->iJ h ρ (AC.rens f cs) vs->iJ h ρ2 (AC.rens f2 cs) vs
|[],_,_,_=>by simp[AC.rens,iJ]
|_::_,[],_,r=>by simp[AC.rens,iJ]at r
|c::cs,v::vs,hl,r=>by
 simp only[AC.lvs,aG]at hl;simp only[AC.rens,iJ]at r⊢;exact⟨⟨r.1.1,RepC.mv H c v hl.1 r.1.2⟩,iJ.mv H cs vs hl.2 r.2⟩
end
mutual
theorem RepV.mv(H:∀b q,p b=true->ρ (f b)=some q->ρ2 (f2 b)=some q):∀(x:AV) (v:Value),x.lv p=true->RepV h ρ (x.ren f) v->RepV h ρ2 (x.ren f2) v
|.c x,v,hl,r=>by
 simp only[AV.lv]at hl;simp only[AV.ren,RepV]at r⊢;exact RepC.mv H x v hl r
|.ag cs,v,hl,r=>by
 simp only[AV.lv]at hl;simp only[AV.ren,RepV]at r⊢;obtain⟨vs,h1,h2,h3⟩:=r;exact⟨vs,h1,by rw[h2,AC.rens_len,AC.rens_len],iJ.mv H cs vs hl h3⟩
|.tup xs,v,hl,r=>by
 simp only[AV.lv]at hl;simp only[AV.ren,RepV]at r⊢;obtain⟨vs,h1,h2⟩:=r;exact⟨vs,h1,zai.mv H xs vs hl h2⟩
theorem zai.mv(H:∀b q,p b=true->ρ (f b)=some q->ρ2 (f2 b)=some q):∀(xs:List AV) (vs:List Value),AV.lvs p xs=true->zai h ρ (AV.rens f xs) vs->zai h ρ2 (AV.rens f2 xs) vs
|[],vs,_,r=>by simpa[AV.rens,zai]using r
|_::_,[],_,r=>by simp[AV.rens,zai]at r
|x::xs,v::vs,hl,r=>by
 simp only[AV.lvs,aG]at hl;simp only[AV.rens,zai]at r⊢;exact⟨RepV.mv H x v hl.1 r.1,zai.mv H xs vs hl.2 r.2⟩
end
theorem iR.mv(H:∀b q,p b=true->ρ (f b)=some q->ρ2 (f2 b)=some q){s:Nat}:∀(es:List (List AC)) (vs:List Value),es.all (AC.lvs p)=true->iR h ρ s (es.map (AC.rens f)) vs->iR h ρ2 s (es.map (AC.rens f2)) vs
|[],_,_,_=>by simp[iR]
|e::es,vs,hl,r=>by
 simp only[List.all_cons,aG]at hl;simp only[List.map_cons,iR,AC.rens_len]at r⊢;exact⟨r.1,iJ.mv H e vs hl.1 r.2.1,iR.mv H es _ hl.2 r.2.2⟩
theorem RepM.mv(H:∀b q,p b=true->ρ (f b)=some q->ρ2 (f2 b)=some q):∀(es:List (D × AV)) (ms:List MapEntry),(es.all λe=>e.2.lv p)=true->RepM h ρ (es.map λe=>(e.1,e.2.ren f)) ms->RepM h ρ2 (es.map λe=>(e.1,e.2.ren f2)) ms
|[],ms,_,r=>by simpa[RepM]using r
|_::_,[],_,r=>by simp[RepM]at r
|e::es,x::ms,hl,r=>by
 simp only[List.all_cons,aG]at hl;simp only[List.map_cons,RepM]at r⊢;exact⟨⟨r.1.1,RepV.mv H _ _ hl.1 r.1.2⟩,RepM.mv H es ms hl.2 r.2⟩
theorem zaI.mv(H:∀b q,p b=true->ρ (f b)=some q->ρ2 (f2 b)=some q){q:Nat × Nat}{blk:Blk}{w:Heap}(hl:blk.lv p=true)(r:zaI h ρ q (blk.ren f) w):zaI h ρ2 q (blk.ren f2) w:=by
 cases blk with
 |non=>trivial
 |dead=>trivial
 |box cs=>
  obtain⟨vs,T,h1,h2,h3⟩:=r;exact⟨vs,T,h1,by rw[h2,AC.rens_len,AC.rens_len],iJ.mv H cs vs hl h3⟩
 |arr s es=>
  rcases r with⟨h1,h2⟩|⟨vs,T,h1,h2,h3,h4,h5⟩
  ·exact .inl ⟨h1,by simpa using h2⟩
  ·exact .inr ⟨vs,T,h1,h2,by simpa using h3,by simpa using h4,iR.mv H es vs hl h5⟩
 |map es=>
  obtain⟨ms,ck,h1,h2,h3,h4⟩:=r;exact⟨ms,ck,h1,RepM.mv H es ms hl h2,h3,h4⟩
 |pin t b=>cases hl
end
mutual
theorem AC.ren_id:∀x:AC,x.ren id=x
|.d _=>rfl
|.ptr _ _=>rfl
|.ept _ _ _ _=>rfl
|.msl _ _ _ _=>rfl
|.map _=>rfl
|.fn g caps=>by simp[AC.ren,AC.rens_id caps]
|.op _=>rfl
theorem AC.rens_id:∀x:List AC,AC.rens id x=x
|[]=>rfl
|c::cs=>by simp[AC.rens,AC.ren_id c,AC.rens_id cs]
end
mutual
theorem AV.ren_id:∀x:AV,x.ren id=x
|.c x=>by simp[AV.ren,AC.ren_id]
|.ag cs=>by simp[AV.ren,AC.rens_id]
|.tup vs=>by simp[AV.ren,AV.rens_id vs]
theorem AV.rens_id:∀x:List AV,AV.rens id x=x
|[]=>rfl
|x::xs=>by simp[AV.rens,AV.ren_id x,AV.rens_id xs]
end
theorem Blk.ren_id(x:Blk):x.ren id=x:=by
 cases x with
 |non=>rfl
 |dead=>rfl
 |box cs=>simp[Blk.ren,AC.rens_id]
 |arr s es=>
  have:(AC.rens id)=id:=funext λx=>AC.rens_id x;simp[Blk.ren,this]
 |map es=>
  have:(λe:D × AV=>(e.1,e.2.ren id))=id:=funext λx=>by simp[AV.ren_id]
  simp[Blk.ren,this]
 |pin t b=>rfl
def jN:Nat->Nat->List Nat
|_,0=>[]
|n,d+1=>n::jN (n+1) d
def CZ(m:Hp):Nat->Nat->Prop
|_,0=>True
|n,d+1=>m n=.non/\CZ m (n+1) d
def uJ(f:Nat->Nat):List Nat->List Blk->List (Nat × Blk)
|j::js,b::bs=>(j,b.ren f)::uJ f js bs
|_,_=>[]
def vL(m:Hp)(f:Nat->Nat):List Nat->List Blk->Prop
|[],[]=>True
|j::js,b::bs=>m j=b.ren f/\vL m f js bs
|_,_=>False
def live(bs:List Blk)(b:Nat):Bool:=match bs[b]? with
|some .dead|some .non|none=>false
|some _=>true
end Go.Abs
