/- Texts of ours, joined and written short by a program of ours. -/
import Derived.Orders
import GoSem.Dispatch
import Derived.Lib.Bytealg
import Derived.WideShapes
set_option maxRecDepth 20000
set_option maxHeartbeats 4000000
set_option linter.unusedVariables false
set_option linter.unusedSectionVars false
set_option linter.unusedSimpArgs false
set_option linter.defProp false
set_option linter.unnecessarySimpa false
namespace Go
abbrev aA:=@if_neg
abbrev aB:=@if_pos
abbrev aC:=@Bool.and_eq_true
abbrev aD:=@List.getElem?_eq_getElem
abbrev aF:=@List.getD_eq_getElem?_getD
abbrev aG:=@List.drop_eq_getElem_cons
abbrev aH:=@List.take_of_length_le
abbrev aI:=@decide_eq_true_eq
abbrev aJ:=@Option.map_eq_some_iff
abbrev aK:=@Nat.le_refl
abbrev aL:=@Eq.refl
abbrev aM:=@List.getElem?_eq_none
abbrev aN:=@Bool.not_eq_true
abbrev aO:=@Option.some.injEq
abbrev aP:=@List.mem_singleton
abbrev aQ:=@List.drop_length
abbrev aR:=@List.length_append
abbrev aS:=@List.mem_cons
abbrev aT:=@Array.getD_eq_getD_getElem?
abbrev aU:=@List.mem_append
abbrev aV:=@beq_iff_eq
abbrev aW:=@List.mem_of_getElem?
abbrev aX:=@Nat.lt_or_ge
abbrev aY:=@ByteArray.size_append
abbrev aZ:=@List.all_eq_true
abbrev aa:=@List.length_eq_zero_iff
abbrev ae:=@Classical.byContradiction
abbrev af:=@Array.getElem?_eq_none
abbrev ah:=@List.length_map
abbrev ai:=@List.getElem_mem
abbrev aj:=@Nat.le_trans
abbrev ak:=@List.take_succ_eq_append_getElem
abbrev au:=@Bool.false_eq_true
abbrev ax:=@Prod.mk.injEq
abbrev ay:=@List.getElem?_append_left
abbrev bC:=@List.getElem?_append_right
abbrev bD:=@Nat.add_mul
abbrev bE:=@Array.toArray_toList
abbrev bF:=@Option.isSome_iff_exists
abbrev bG:=@List.getElem?_drop
abbrev bH:=@Array.getElem?_eq_getElem
abbrev bI:=@List.mem_map
abbrev bJ:=@Int.toNat_natCast
abbrev bK:=@Array.getElem?_replicate
abbrev bL:=@Nat.mul_le_mul_right
abbrev bM:=@Array.getElem?_setIfInBounds_ne
abbrev bN:=@List.drop_of_length_le
abbrev bO:=@List.drop_drop
abbrev bP:=@List.mem_filter
abbrev bQ:=@List.append_nil
abbrev bR:=@Nat.zero_mul
abbrev bS:=@Bool.or_eq_true
abbrev bU:=@List.length_take
abbrev bV:=@Option.some.inj
abbrev bW:=@List.take_append_drop
abbrev bX:=@Nat.add_sub_cancel_left
abbrev bY:=@Nat.one_mul
abbrev bZ:=@List.pairwise_cons
abbrev bf:=@List.range_eq_range'
abbrev bg:=@Bool.not_eq_true'
abbrev bi:=@List.ext_getElem?
abbrev bu:=@congrArg
abbrev bv:=@Nat.lt_of_lt_of_le
abbrev bz:=@List.nodup_append
abbrev cB:=@Array.getElem?_setIfInBounds_self
abbrev cO:=@Array.mapM_eq_mapM_toList
abbrev cZ:=@List.mem_of_mem_take
abbrev cu:=@Array.ext'
abbrev cz:=@Option.bind_eq_some_iff
abbrev dA:=@List.range'_succ
abbrev dC:=@List.take_length
abbrev dD:=@List.length_drop
abbrev dE:=@List.drop_append_of_le_length
abbrev dF:=@Array.empty_append
abbrev dH:=@Nat.add_comm
abbrev dI:=@List.append_assoc
abbrev dJ:=@List.contains_iff_mem
abbrev dK:=@List.map_map
abbrev dL:=@List.nodup_cons
abbrev dM:=@List.pairwise_append
abbrev dN:=@decide_eq_true
abbrev dO:=@Nat.zero_le
abbrev dP:=@Nat.sub_zero
abbrev dQ:=@List.getElem_of_mem
abbrev dR:=@Int.tmod_nonneg
abbrev dS:=@UInt8.toNat_inj
abbrev dU:=@List.getElem?_take
abbrev dV:=@List.not_mem_nil
abbrev dW:=@List.filter_eq_nil_iff
abbrev dX:=@Nat.le_add_right
abbrev dY:=@List.mem_or_eq_of_mem_set
abbrev dZ:=@decide_eq_false
abbrev d9:=@List.mem_of_mem_drop
abbrev df:=@Array.length_toList
abbrev dh:=@List.filter_cons
abbrev di:=ByteArray
def Value.one1:Value->Bool
|.agg _|.tuple _=>false
|_=>true
end Go
namespace Go.Abs
abbrev PH:=Nat->Option Obj
abbrev RM:=Nat->Option (Nat × Nat)
inductive D where
|any
|int (k:IntKind) (n:Int)
|bool (b:Bool)
|str (s:di)
|sc (v:Value)
|sl (x:Bool) (s:Nat) (es:List (List D))
|rp (cs:List D) (off:Nat)
|fn (f:Fn) (caps:List D)
|ifc (t:TypeId) (ag:Bool) (cs:List D)
|mp (ks vs:List D)
inductive DV where
|one (x:D)
|agg (cs:List D)
|tup (vs:List DV)
inductive AC where
|d (x:D)
|ptr (b off:Nat)
|ept (s b i off:Nat)
|msl (s b off len:Nat)
|map (b:Nat)
|fn (f:Fn) (caps:List AC)
|op (r:Value->Prop)
inductive AV where
|c (x:AC)
|ag (cs:List AC)
|tup (vs:List AV)
inductive Blk where
|non
|dead
|box (cs:List AC)
|arr (s:Nat) (es:List (List AC))
|map (es:List (D × AV))
|pin (t:Nat × Nat) (b:Nat)
abbrev Hp:=Nat->Blk
def hcells(h:PH)(B:Nat):List Value:=
 match h B with
 |some (.cells c _ _)=>c.toList
 |_=>[]
def cellsAt(h:PH):Option Addr->List Value
|some p=>(hcells h p.block).drop p.off
|none=>[]
def zao:Nat:=4611686018427387904
mutual
def RepD(h:PH):D->Value->Prop
|.any,_=>True
|.int k n,v=>v=.int k n/\k.min<=n/\n<=k.max
|.bool b,v=>v=.bool b
|.str s,v=>v=.string s/\s.size<=zao
|.sc u,v=>v=u
| .sl x s es,v=>∃a cap,v=.slice a es.length cap/\es.length<=cap/\(x=true->cap=es.length)/\es.length<=zao/\
  (a=none->es=[]/\cap=0)/\(∀p,a=some p->0<cap->p.spot=none)/\RepE h s es (cellsAt h a)
|.rp cs off,v=>∃B o,v=.pointer (some ⟨B,o+off,none⟩)/\RepL h cs ((hcells h B).drop o)
|.fn f caps,v=>∃vs:List Value,v=.func f #[] vs.toArray/\vs.length=caps.length/\RepL h caps vs
|.ifc t ag cs,v=>∃vs:List Value,v=.iface t (if ag then .agg vs.toArray else vs.headD undef)/\vs.length=cs.length/\(ag=false->cs.length=1)/\RepL h cs vs
|.mp ks us,v=>∃(B:Nat) (ms:List MapEntry) (ck:Nat),v=.map (some B)/\h B=some (.map ms.toArray ck)/\ms.length=ks.length/\ms.length=us.length/\(RepL h ks (ms.map (·.key))/\RepL h us (ms.map (·.val)))/\(∀e,e∈ms->e.born<ck)/\(ms.map (·.born)).Nodup
def RepL(h:PH):List D->List Value->Prop
|[],_=>True
|_::_,[]=>False
|d::ds,v::vs=>(v.one1=true/\RepD h d v)/\RepL h ds vs
def RepE(h:PH)(s:Nat):List (List D)->List Value->Prop
|[],_=>True
|e::es,vs=>e.length=s/\RepL h e vs/\RepE h s es (vs.drop s)
end
def PH.le(h h':PH):Prop:=∀B o,h B=some o->h' B=some o
def PH.le_refl(h:PH):h.le h:=λ_ _ e=>e
def PH.le_trans{a b c:PH}(h:a.le b)(k:b.le c):a.le c:=λB o e=>k B o (h B o e)
def zeT{h h':PH}(hle:h.le h')(B:Nat):∃t,hcells h' B=hcells h B++t:=by
 unfold hcells;cases e:h B with
 |none=>exact⟨_,by simp;rfl⟩
 |some o=>rw[hle B o e];exact⟨[],by simp⟩
def QR{h h':PH}(hle:h.le h')(B n:Nat):∃t,(hcells h' B).drop n=(hcells h B).drop n++t:=by
 obtain⟨t,ht⟩:=zeT hle B;rw[ht,List.drop_append];exact⟨_,rfl⟩
def zev{h h':PH}(hle:h.le h')(a:Option Addr):∃t,cellsAt h' a=cellsAt h a++t:=by
 cases a with
 |none=>exact⟨[],rfl⟩
 |some p=>exact QR hle _ _
mutual
def RepD.mono{h h':PH}(hle:h.le h'):∀(d:D) (v:Value),RepD h d v->RepD h' d v
|.any,_,_=>by simp[RepD]
|.int k n,_,r=>by simpa[RepD]using r
|.bool b,_,r=>by simpa[RepD]using r
|.str s,_,r=>by simpa[RepD]using r
|.sc u,_,r=>by simpa[RepD]using r
|.sl x s es,v,r=>by
 simp only[RepD]at r⊢;obtain⟨a,cap,h1,h2,h3,h4,h5,h6,h7⟩:=r;refine⟨a,cap,h1,h2,h3,h4,h5,h6,?_⟩;obtain⟨t,ht⟩:=zev hle a;rw[ht];exact RepE.mono hle es _ t h7
|.rp cs off,v,r=>by
 simp only[RepD]at r⊢;obtain⟨B,o,h1,h2⟩:=r;refine⟨B,o,h1,?_⟩;obtain⟨t,ht⟩:=QR hle B o;rw[ht];exact RepL.mono hle cs _ t h2
|.fn f caps,v,r=>by
 simp only[RepD]at r⊢;obtain⟨vs,h1,h2,h3⟩:=r;refine⟨vs,h1,h2,?_⟩;simpa using RepL.mono hle caps vs [] h3
|.ifc t ag cs,v,r=>by
 simp only[RepD]at r⊢;obtain⟨vs,h1,h2,h3,h4⟩:=r;refine⟨vs,h1,h2,h3,?_⟩;simpa using RepL.mono hle cs vs [] h4
|.mp ks us,v,r=>by
 simp only[RepD]at r⊢;obtain⟨B,ms,ck,h1,h2,h3,h4,⟨h5,h6⟩,h7⟩:=r;refine⟨B,ms,ck,h1,hle _ _ h2,h3,h4,⟨?_,?_⟩,h7⟩
 ·simpa using RepL.mono hle ks (ms.map (·.key)) [] h5
 ·simpa using RepL.mono hle us (ms.map (·.val)) [] h6
def RepL.mono{h h':PH}(hle:h.le h'):∀(ds:List D) (vs t:List Value),RepL h ds vs->RepL h' ds (vs++t)
|[],_,_,_=>by simp[RepL]
|d::ds,[],_,r=>by simp[RepL]at r
|d::ds,v::vs,t,r=>by
 simp only[RepL,List.cons_append]at r⊢;exact⟨⟨r.1.1,RepD.mono hle d v r.1.2⟩,RepL.mono hle ds vs t r.2⟩
def RepE.mono{h h':PH}(hle:h.le h'){s:Nat}:∀(es:List (List D)) (vs t:List Value),RepE h s es vs->RepE h' s es (vs++t)
|[],_,_,_=>by simp[RepE]
|e::es,vs,t,r=>by
 simp only[RepE]at r⊢;refine⟨r.1,RepL.mono hle e vs t r.2.1,?_⟩;rw[List.drop_append];exact RepE.mono hle es _ _ r.2.2
end
def RepL.mono'{h h':PH}(hle:h.le h'){ds:List D}{vs:List Value}(r:RepL h ds vs):RepL h' ds vs:=by
 simpa using RepL.mono hle ds vs [] r
def RepL.length{h:PH}:∀{ds:List D} {vs:List Value},RepL h ds vs->ds.length<=vs.length
|[],_,_=>by simp
|_::_,[],r=>by simp[RepL]at r
|d::ds,v::vs,r=>by
 simp only[RepL]at r;have:=RepL.length r.2;simpa using this
def RepL.get{h:PH}:∀{ds:List D} {vs:List Value} {j:Nat} {x:D},RepL h ds vs->ds[j]?=some x->∃v,vs[j]?=some v/\v.one1=true/\RepD h x v
|[],_,j,x,_,e=>by simp at e
|_::_,[],_,_,r,_=>by simp[RepL]at r
|d::ds,v::vs,0,x,r,e=>by
 simp only[RepL]at r;simp at e;subst e;exact⟨v,by simp,r.1.1,r.1.2⟩
|d::ds,v::vs,j+1,x,r,e=>by
 simp only[RepL]at r;simp only[List.getElem?_cons_succ]at e⊢;exact RepL.get r.2 e
def RepL.take{h:PH}:∀{ds:List D} {vs:List Value},RepL h ds vs->RepL h ds (vs.take ds.length)
|[],_,_=>by simp[RepL]
|_::_,[],r=>by simp[RepL]at r
|d::ds,v::vs,r=>by
 simp only[RepL,List.length_cons,List.take_succ_cons]at r⊢;exact⟨r.1,RepL.take r.2⟩
def RepL.drop{h:PH}:∀{ds:List D} {vs:List Value} (n:Nat),RepL h ds vs->RepL h (ds.drop n) (vs.drop n)
|[],_,n,_=>by simp[RepL]
|_::_,[],_,r=>by simp[RepL]at r
|d::ds,v::vs,0,r=>by simpa using r
|d::ds,v::vs,n+1,r=>by
 simp only[RepL]at r;simpa using RepL.drop n r.2
def RepL.takeDs{h:PH}:∀{ds:List D} {vs:List Value} (n:Nat),RepL h ds vs->RepL h (ds.take n) vs
|[],_,n,_=>by simp[RepL]
|_::_,[],_,r=>by simp[RepL]at r
|d::ds,v::vs,0,r=>by simp[RepL]
|d::ds,v::vs,n+1,r=>by
 simp only[RepL,List.take_succ_cons]at r⊢;exact⟨r.1,RepL.takeDs n r.2⟩
def RepE.get{h:PH}{s:Nat}:∀{es:List (List D)} {vs:List Value} {i:Nat} {e:List D},RepE h s es vs->es[i]?=some e->e.length=s/\RepL h e (vs.drop (i*s))
|[],_,i,e,_,hi=>by simp at hi
|e0::es,vs,0,e,r,hi=>by
 simp only[RepE]at r;simp at hi;subst hi;exact⟨r.1,by simpa using r.2.1⟩
|e0::es,vs,i+1,e,r,hi=>by
 simp only[RepE]at r;simp only[List.getElem?_cons_succ]at hi;have:=RepE.get r.2.2 hi;refine⟨this.1,?_⟩;rw[bO]at this;have e1:s+i*s=(i+1)*s:=by rw[bD,bY,dH]
 rw[<-e1];exact this.2
def RepE.drop{h:PH}{s:Nat}:∀{es:List (List D)} {vs:List Value} (n:Nat),RepE h s es vs->RepE h s (es.drop n) (vs.drop (n*s))
|[],_,n,_=>by simp[RepE]
|e0::es,vs,0,r=>by simpa using r
|e0::es,vs,n+1,r=>by
 simp only[RepE]at r;have:=RepE.drop n r.2.2;rw[bO]at this;have e1:s+n*s=(n+1)*s:=by rw[bD,bY,dH]
 rw[<-e1];simpa using this
def RepE.take{h:PH}{s:Nat}:∀{es:List (List D)} {vs:List Value} (n:Nat),RepE h s es vs->RepE h s (es.take n) vs
|[],_,n,_=>by simp[RepE]
|e0::es,vs,0,r=>by simp[RepE]
|e0::es,vs,n+1,r=>by
 simp only[RepE,List.take_succ_cons]at r⊢;exact⟨r.1,r.2.1,RepE.take n r.2.2⟩
def RepE.total{h:PH}{s:Nat}:∀{es:List (List D)} {vs:List Value},RepE h s es vs->es.length*s<=vs.length
|[],_,_=>by simp
|e0::es,vs,r=>by
 simp only[RepE]at r;have h1:=RepL.length r.2.1;have h2:=RepE.total r.2.2;simp only[List.length_drop]at h2;simp only[List.length_cons,bD,bY];by_cases hs:s<=vs.length
 ·omega
 ·omega
def RepL.append{h:PH}:∀{ds:List D} {vs:List Value} {ds':List D} {vs':List Value},RepL h ds vs->vs.length=ds.length->RepL h ds' vs'->RepL h (ds++ds') (vs++vs')
|[],[],_,_,_,_,r=>by simpa using r
|[],_::_,_,_,_,e,_=>by simp at e
|_::_,[],_,_,r,_,_=>by simp[RepL]at r
|d::ds,v::vs,ds',vs',r,e,r'=>by
 simp only[RepL,List.cons_append]at r⊢;exact⟨r.1,RepL.append r.2 (by simpa using e) r'⟩
mutual
def RepC(h:PH)(ρ:RM):AC->Value->Prop
|.d x,v=>RepD h x v
|.ptr b off,v=>∃p,ρ b=some p/\v=.pointer (some ⟨p.1,off,none⟩)
|.ept s b i off,v=>∃p,ρ b=some p/\v=.pointer (some ⟨p.1,i*s+off,none⟩)
|.msl s b off len,v=>∃p a,ρ b=some p/\v=.slice a len (p.2-off)/\off+len<=p.2/\(off<p.2->a=some ⟨p.1,off*s,none⟩)/\(∀q,a=some q->0<p.2-off->q.spot=none)
|.map b,v=>∃p,ρ b=some p/\v=.map (some p.1)
|.fn f caps,v=>∃vs:List Value,v=.func f #[] vs.toArray/\vs.length=caps.length/\gK h ρ caps vs
|.op r,v=>r v
def gK(h:PH)(ρ:RM):List AC->List Value->Prop
|[],_=>True
|_::_,[]=>False
|c::cs,v::vs=>(v.one1=true/\RepC h ρ c v)/\gK h ρ cs vs
end
mutual
def RepV(h:PH)(ρ:RM):AV->Value->Prop
|.c x,v=>RepC h ρ x v
|.ag cs,v=>∃vs:List Value,v=.agg vs.toArray/\vs.length=cs.length/\gK h ρ cs vs
|.tup xs,v=>∃vs:List Value,v=.tuple vs.toArray/\zad h ρ xs vs
def zad(h:PH)(ρ:RM):List AV->List Value->Prop
|[],vs=>vs=[]
|_::_,[]=>False
|x::xs,v::vs=>RepV h ρ x v/\zad h ρ xs vs
end
def gp(h:PH)(ρ:RM)(s:Nat):List (List AC)->List Value->Prop
|[],_=>True
|e::es,vs=>e.length=s/\gK h ρ e vs/\gp h ρ s es (vs.drop s)
mutual
def jZ(h:PH):DV->Value->Prop
|.one x,v=>RepD h x v
|.agg cs,v=>∃vs:List Value,v=.agg vs.toArray/\vs.length=cs.length/\RepL h cs vs
|.tup xs,v=>∃vs:List Value,v=.tuple vs.toArray/\ja h xs vs
def ja(h:PH):List DV->List Value->Prop
|[],vs=>vs=[]
|_::_,[]=>False
|x::xs,v::vs=>jZ h x v/\ja h xs vs
end
def RM.le(ρ ρ':RM):Prop:=∀b p,ρ b=some p->ρ' b=some p
def RM.le_refl(ρ:RM):ρ.le ρ:=λ_ _ e=>e
def RM.le_trans{a b c:RM}(h:a.le b)(k:b.le c):a.le c:=λx p e=>k x p (h x p e)
section
variable {h h':PH} {ρ ρ':RM}
mutual
def RepC.mono(hle:h.le h')(rle:ρ.le ρ'):∀(c:AC) (v:Value),RepC h ρ c v->RepC h' ρ' c v
|.d x,v,r=>by simp only[RepC]at r⊢;exact RepD.mono hle x v r
|.ptr b off,v,r=>by simp only[RepC]at r⊢;obtain⟨p,h1,h2⟩:=r;exact⟨p,rle _ _ h1,h2⟩
|.ept s b i off,v,r=>by simp only[RepC]at r⊢;obtain⟨p,h1,h2⟩:=r;exact⟨p,rle _ _ h1,h2⟩
|.msl s b off len,v,r=>by simp only[RepC]at r⊢;obtain⟨p,a,h1,h2⟩:=r;exact⟨p,a,rle _ _ h1,h2⟩
|.map b,v,r=>by simp only[RepC]at r⊢;obtain⟨p,h1,h2⟩:=r;exact⟨p,rle _ _ h1,h2⟩
|.fn f caps,v,r=>by
 simp only[RepC]at r⊢;obtain⟨vs,h1,h2,h3⟩:=r;exact⟨vs,h1,h2,gK.mono hle rle caps vs h3⟩
|.op q,v,r=>by simpa only[RepC]using r
def gK.mono(hle:h.le h')(rle:ρ.le ρ'):∀(cs:List AC) (vs:List Value),gK h ρ cs vs->gK h' ρ' cs vs
|[],_,_=>by simp[gK]
|_::_,[],r=>by simp[gK]at r
|c::cs,v::vs,r=>by
 simp only[gK]at r⊢;exact⟨⟨r.1.1,RepC.mono hle rle c v r.1.2⟩,gK.mono hle rle cs vs r.2⟩
end
mutual
def RepV.mono(hle:h.le h')(rle:ρ.le ρ'):∀(x:AV) (v:Value),RepV h ρ x v->RepV h' ρ' x v
|.c x,v,r=>by simp only[RepV]at r⊢;exact RepC.mono hle rle x v r
|.ag cs,v,r=>by
 simp only[RepV]at r⊢;obtain⟨vs,h1,h2,h3⟩:=r;exact⟨vs,h1,h2,gK.mono hle rle cs vs h3⟩
|.tup xs,v,r=>by
 simp only[RepV]at r⊢;obtain⟨vs,h1,h2⟩:=r;exact⟨vs,h1,zad.mono hle rle xs vs h2⟩
def zad.mono(hle:h.le h')(rle:ρ.le ρ'):∀(xs:List AV) (vs:List Value),zad h ρ xs vs->zad h' ρ' xs vs
|[],_,r=>by simpa[zad]using r
|_::_,[],r=>by simp[zad]at r
|x::xs,v::vs,r=>by
 simp only[zad]at r⊢;exact⟨RepV.mono hle rle x v r.1,zad.mono hle rle xs vs r.2⟩
end
def gp.mono(hle:h.le h')(rle:ρ.le ρ'){s:Nat}:∀(es:List (List AC)) (vs:List Value),gp h ρ s es vs->gp h' ρ' s es vs
|[],_,_=>by simp[gp]
|e::es,vs,r=>by
 simp only[gp]at r⊢;exact⟨r.1,gK.mono hle rle e vs r.2.1,gp.mono hle rle es _ r.2.2⟩
def gK.get:∀{ds:List AC} {vs:List Value} {j:Nat} {x:AC},gK h ρ ds vs->ds[j]?=some x->∃v,vs[j]?=some v/\v.one1=true/\RepC h ρ x v
|[],_,j,x,_,e=>by simp at e
|_::_,[],_,_,r,_=>by simp[gK]at r
|d::ds,v::vs,0,x,r,e=>by
 simp only[gK]at r;simp at e;subst e;exact⟨v,by simp,r.1.1,r.1.2⟩
|d::ds,v::vs,j+1,x,r,e=>by
 simp only[gK]at r;simp only[List.getElem?_cons_succ]at e⊢;exact gK.get r.2 e
def gK.length:∀{ds:List AC} {vs:List Value},gK h ρ ds vs->ds.length<=vs.length
|[],_,_=>by simp
|_::_,[],r=>by simp[gK]at r
|d::ds,v::vs,r=>by
 simp only[gK]at r;have:=gK.length r.2;simpa using this
def gK.take:∀{ds:List AC} {vs:List Value},gK h ρ ds vs->gK h ρ ds (vs.take ds.length)
|[],_,_=>by simp[gK]
|_::_,[],r=>by simp[gK]at r
|d::ds,v::vs,r=>by
 simp only[gK,List.length_cons,List.take_succ_cons]at r⊢;exact⟨r.1,gK.take r.2⟩
def gK.drop:∀{ds:List AC} {vs:List Value} (n:Nat),gK h ρ ds vs->gK h ρ (ds.drop n) (vs.drop n)
|[],_,n,_=>by simp[gK]
|_::_,[],_,r=>by simp[gK]at r
|d::ds,v::vs,0,r=>by simpa using r
|d::ds,v::vs,n+1,r=>by
 simp only[gK]at r;simpa using gK.drop n r.2
def gK.takeDs:∀{ds:List AC} {vs:List Value} (n:Nat),gK h ρ ds vs->gK h ρ (ds.take n) vs
|[],_,n,_=>by simp[gK]
|_::_,[],_,r=>by simp[gK]at r
|d::ds,v::vs,0,r=>by simp[gK]
|d::ds,v::vs,n+1,r=>by
 simp only[gK,List.take_succ_cons]at r⊢;exact⟨r.1,gK.takeDs n r.2⟩
def gK.more:∀{ds:List AC} {vs:List Value} (t:List Value),gK h ρ ds vs->gK h ρ ds (vs++t)
|[],_,t,_=>by simp[gK]
|_::_,[],_,r=>by simp[gK]at r
|d::ds,v::vs,t,r=>by
 simp only[gK,List.cons_append]at r⊢;exact⟨r.1,gK.more t r.2⟩
def gK.set:∀{ds:List AC} {vs:List Value} {j:Nat} {x:AC} {v:Value},gK h ρ ds vs->v.one1=true->RepC h ρ x v->gK h ρ (ds.set j x) (vs.set j v)
|[],_,_,_,_,_,_,_=>by simp[gK]
|_::_,[],_,_,_,r,_,_=>by simp[gK]at r
|d::ds,v::vs,0,x,u,r,e,q=>by
 simp only[gK,List.set_cons_zero]at r⊢;exact⟨⟨e,q⟩,r.2⟩
|d::ds,v::vs,j+1,x,u,r,e,q=>by
 simp only[gK,List.set_cons_succ]at r⊢;exact⟨r.1,gK.set r.2 e q⟩
def gK.of_D:∀{ds:List D} {vs:List Value},RepL h ds vs->gK h ρ (ds.map .d) vs
|[],_,_=>by simp[gK]
|_::_,[],r=>by simp[RepL]at r
|d::ds,v::vs,r=>by
 simp only[RepL]at r;simp only[List.map_cons,gK,RepC];exact⟨r.1,gK.of_D r.2⟩
def gK.to_D:∀{ds:List D} {vs:List Value},gK h ρ (ds.map .d) vs->RepL h ds vs
|[],_,_=>by simp[RepL]
|_::_,[],r=>by simp[gK]at r
|d::ds,v::vs,r=>by
 simp only[List.map_cons,gK,RepC]at r;simp only[RepL];exact⟨r.1,gK.to_D r.2⟩
def gp.get{s:Nat}:∀{es:List (List AC)} {vs:List Value} {i:Nat} {e:List AC},gp h ρ s es vs->es[i]?=some e->e.length=s/\gK h ρ e (vs.drop (i*s))
|[],_,i,e,_,hi=>by simp at hi
|e0::es,vs,0,e,r,hi=>by
 simp only[gp]at r;simp at hi;subst hi;exact⟨r.1,by simpa using r.2.1⟩
|e0::es,vs,i+1,e,r,hi=>by
 simp only[gp]at r;simp only[List.getElem?_cons_succ]at hi;have:=gp.get r.2.2 hi;refine⟨this.1,?_⟩;rw[bO]at this;have e1:s+i*s=(i+1)*s:=by rw[bD,bY,dH]
 rw[<-e1];exact this.2
def gp.total{s:Nat}:∀{es:List (List AC)} {vs:List Value},gp h ρ s es vs->es.length*s<=vs.length
|[],_,_=>by simp
|e0::es,vs,r=>by
 simp only[gp]at r;have h1:=gK.length r.2.1;have h2:=gp.total r.2.2;simp only[List.length_drop]at h2;simp only[List.length_cons,bD,bY];by_cases hs:s<=vs.length
 ·omega
 ·omega
def gp.more{s:Nat}:∀{es:List (List AC)} {vs:List Value} (t:List Value),gp h ρ s es vs->gp h ρ s es (vs++t)
|[],_,t,_=>by simp[gp]
|e::es,vs,t,r=>by
 simp only[gp]at r⊢;refine⟨r.1,r.2.1.more t,?_⟩;rw[List.drop_append];exact gp.more _ r.2.2
def gp.append{s:Nat}:∀{es:List (List AC)} {vs:List Value} {es':List (List AC)} {vs':List Value},gp h ρ s es vs->vs.length=es.length*s->gp h ρ s es' vs'->gp h ρ s (es++es') (vs++vs')
|[],vs,_,_,_,e,r=>by
 have:vs=[]:=by simpa using e
 subst this;simpa using r
|e0::es,vs,es',vs',r,e,r'=>by
 simp only[gp,List.cons_append]at r⊢;have hl:vs.length=s+es.length*s:=by simpa[bD,dH]using e
 refine⟨r.1,r.2.1.more vs',?_⟩;rw[dE (by omega)];exact gp.append r.2.2 (by simp;omega) r'
def gp.of_E{s:Nat}:∀{es:List (List D)} {vs:List Value},RepE h s es vs->gp h ρ s (es.map (·.map .d)) vs
|[],_,_=>by simp[gp]
|e::es,vs,r=>by
 simp only[RepE]at r;simp only[List.map_cons,gp,ah];exact⟨r.1,gK.of_D r.2.1,gp.of_E r.2.2⟩
def gp.to_E{s:Nat}:∀{es:List (List D)} {vs:List Value},gp h ρ s (es.map (·.map .d)) vs->RepE h s es vs
|[],_,_=>by simp[RepE]
|e::es,vs,r=>by
 simp only[List.map_cons,gp,ah]at r;simp only[RepE];exact⟨r.1,gK.to_D r.2.1,gp.to_E r.2.2⟩
def gp.takeEs{s:Nat}:∀{es:List (List AC)} {vs:List Value} (n:Nat),gp h ρ s es vs->gp h ρ s (es.take n) vs
|[],_,n,_=>by simp[gp]
|e0::es,vs,0,r=>by simp[gp]
|e0::es,vs,n+1,r=>by
 simp only[gp,List.take_succ_cons]at r⊢;exact⟨r.1,r.2.1,gp.takeEs n r.2.2⟩
def gp.drop{s:Nat}:∀{es:List (List AC)} {vs:List Value} (n:Nat),gp h ρ s es vs->gp h ρ s (es.drop n) (vs.drop (n*s))
|[],_,n,_=>by simp[gp]
|e0::es,vs,0,r=>by simpa using r
|e0::es,vs,n+1,r=>by
 simp only[gp]at r;have:=gp.drop n r.2.2;rw[bO]at this;have e1:s+n*s=(n+1)*s:=by rw[bD,bY,dH]
 rw[<-e1];simpa using this
end
abbrev eZ:=@PH.le_refl
abbrev fA:=@RM.le_refl
abbrev fJ:=@RepL.mono
end Go.Abs
namespace Go.Abs
def upd{α:Type}(f:Nat->α)(k:Nat)(v:α):Nat->α:=λj=>if j=k then v else f j
def zae{α:Type}(f:Nat->α)(k:Nat)(v:α):upd f k v k=v:=by simp[upd]
def zah{α:Type}(f:Nat->α){k j:Nat}(v:α)(h:j≠k):upd f k v j=f j:=by simp[upd,h]
def Real:Blk->Nat × Nat->Prop
|.non,_|.dead,_|.pin _ _,_=>False
|.arr _ _,p=>0<p.2
|_,_=>True
def RepM(h:PH)(ρ:RM):List (D × AV)->List MapEntry->Prop
|[],ms=>ms=[]
|_::_,[]=>False
|e::es,x::ms=>(RepD h e.1 x.key/\RepV h ρ e.2 x.val)/\RepM h ρ es ms
def RepM.mono{h h':PH}{ρ ρ':RM}(hle:h.le h')(rle:ρ.le ρ'):∀(es:List (D × AV)) (ms:List MapEntry),RepM h ρ es ms->RepM h' ρ' es ms
|[],_,r=>by simpa[RepM]using r
|_::_,[],r=>by simp[RepM]at r
|e::es,x::ms,r=>by
 simp only[RepM]at r⊢;exact⟨⟨RepD.mono hle _ _ r.1.1,RepV.mono hle rle _ _ r.1.2⟩,RepM.mono hle rle es ms r.2⟩
abbrev Heap:=Array Obj
def zaj(h:PH)(ρ:RM)(p:Nat × Nat):Blk->Heap->Prop
|.non,_=>True
|.dead,_=>True
|.pin t b,_=>p=t/\ρ b=some t
|.box cs,w=>∃(vs:List Value) (T:TypeId),w[p.1]?=some (.cells vs.toArray T (0,0))/\vs.length=cs.length/\gK h ρ cs vs
|.arr s es,w=>(p.2=0/\es=[])\/∃(vs:List Value) (T:TypeId),w[p.1]?=some (.cells vs.toArray T (0,0))/\vs.length=p.2*s/\es.length<=p.2/\es.length<=zao/\gp h ρ s es vs
|.map es,w=>∃(ms:List MapEntry) (clock:Nat),w[p.1]?=some (.map ms.toArray clock)/\RepM h ρ es ms/\(∀e,e∈ms->e.born<clock)/\(ms.map (·.born)).Nodup
structure HRel (h:PH) (ρ:RM) (m:Hp) (w:Heap):Prop where
 pers:∀B o,h B=some o->w[B]?=some o
 dom:∀b,m b=.non↔ρ b=none
 own:∀b p,ρ b=some p->zaj h ρ p (m b) w
 inj:∀b c p q,ρ b=some p->ρ c=some q->Real (m b) p->Real (m c) q->p.1=q.1->b=c
 sep:∀b p,ρ b=some p->Real (m b) p->h p.1=none
def jm(ρ:RM)(m:Hp)(B:Nat):Prop:=∀b p,ρ b=some p->Real (m b) p->p.1≠B
structure Step (h:PH) (ρ:RM) (m:Hp) (w:Heap) (h':PH) (ρ':RM) (m':Hp) (w':Heap):Prop where
 hle:h.le h'
 hlow:∀B,B<w.size->jm ρ m B->h' B=h B
 rle:ρ.le ρ'
 size:w.size<=w'.size
 frame:∀B,B<w.size->jm ρ m B->w'[B]?=w[B]?
 own:∀b p,ρ' b=some p->Real (m' b) p->w.size<=p.1\/∃c q,ρ c=some q/\Real (m c) q/\q.1=p.1
def Step.free{h h':PH}{ρ ρ':RM}{m m':Hp}{w w':Heap}(s:Step h ρ m w h' ρ' m' w'){B:Nat}(hB:B<w.size)(hf:jm ρ m B):jm ρ' m' B:=by
 intro b p hp hr e;rcases s.own b p hp hr with h1|⟨c,q,hc,hq,e1⟩
 ·omega
 ·exact hf c q hc hq (e1.trans e)
def Step.trans{h h' h'':PH}{ρ ρ' ρ'':RM}{m m' m'':Hp}{w w' w'':Heap}(s:Step h ρ m w h' ρ' m' w')(t:Step h' ρ' m' w' h'' ρ'' m'' w''):
  Step h ρ m w h'' ρ'' m'' w'' where
 hle:=PH.le_trans s.hle t.hle
 hlow B hB hf:=(t.hlow B (bv hB s.size) (s.free hB hf)).trans (s.hlow B hB hf)
 rle:=RM.le_trans s.rle t.rle
 size:=aj s.size t.size
 frame B hB hf:=(t.frame B (bv hB s.size) (s.free hB hf)).trans (s.frame B hB hf)
 own b p hp hr:=by
  rcases t.own b p hp hr with h1|⟨c,q,hc,hq,e1⟩
  ·exact .inl (aj s.size h1)
  ·rcases s.own c q hc hq with h2|⟨d,r,hd,hr',e2⟩
   ·exact .inl (by omega)
   ·exact .inr ⟨d,r,hd,hr',e2.trans e1⟩
structure ng (h:PH) (ρ:RM) (m:Hp) (w:Heap) (h':PH) (ρ':RM) (m':Hp) (w':Heap):Prop where
 hle:h.le h'
 hlow:∀B,B<w.size->jm ρ m B->h' B=h B
 size:w.size<=w'.size
 frame:∀B,B<w.size->jm ρ m B->w'[B]?=w[B]?
 own:∀b p,ρ' b=some p->Real (m' b) p->w.size<=p.1\/∃c q,ρ c=some q/\Real (m c) q/\q.1=p.1
def Step.wk{h h':PH}{ρ ρ':RM}{m m':Hp}{w w':Heap}(s:Step h ρ m w h' ρ' m' w'):ng h ρ m w h' ρ' m' w':=⟨s.hle,s.hlow,s.size,s.frame,s.own⟩
def ng.free{h h':PH}{ρ ρ':RM}{m m':Hp}{w w':Heap}(s:ng h ρ m w h' ρ' m' w'){B:Nat}(hB:B<w.size)(hf:jm ρ m B):jm ρ' m' B:=by
 intro b p hp hr e;rcases s.own b p hp hr with h1|⟨c,q,hc,hq,e1⟩
 ·omega
 ·exact hf c q hc hq (e1.trans e)
def ng.trans{h h' h'':PH}{ρ ρ' ρ'':RM}{m m' m'':Hp}{w w' w'':Heap}(s:ng h ρ m w h' ρ' m' w')(t:Step h' ρ' m' w' h'' ρ'' m'' w''):
  ng h ρ m w h'' ρ'' m'' w'' where
 hle:=PH.le_trans s.hle t.hle
 hlow B hB hf:=(t.hlow B (bv hB s.size) (s.free hB hf)).trans (s.hlow B hB hf)
 size:=aj s.size t.size
 frame B hB hf:=(t.frame B (bv hB s.size) (s.free hB hf)).trans (s.frame B hB hf)
 own b p hp hr:=by
  rcases t.own b p hp hr with h1|⟨c,q,hc,hq,e1⟩
  ·exact .inl (aj s.size h1)
  ·rcases s.own c q hc hq with h2|⟨d,r,hd,hr',e2⟩
   ·exact .inl (by omega)
   ·exact .inr ⟨d,r,hd,hr',e2.trans e1⟩
theorem Step.refl(h:PH)(ρ:RM)(m:Hp)(w:Heap):Step h ρ m w h ρ m w where
 hle:=eZ h
 hlow _ _ _:=rfl
 rle:=fA ρ
 size:=aK _
 frame _ _ _:=rfl
 own b p hp hr:=.inr ⟨b,p,hp,hr,rfl⟩
section
variable {h h':PH} {ρ ρ':RM} {m m':Hp} {w w':Heap}
def HRel.lt(H:HRel h ρ m w){B:Nat}{o:Obj}(e:h B=some o):B<w.size:=by
 have:=H.pers B o e;rcases aX B w.size with h1|h1
 ·exact h1
 ·rw[af h1]at this;cases this
def zaj.congr{p:Nat × Nat}{blk:Blk}(hle:h.le h')(rle:ρ.le ρ')(e:w'[p.1]?=w[p.1]?)(r:zaj h ρ p blk w):zaj h' ρ' p blk w':=by
 cases blk with
 |non=>trivial
 |dead=>trivial
 |box cs=>
  obtain⟨vs,T,h1,h2,h3⟩:=r;exact⟨vs,T,e.trans h1,h2,gK.mono hle rle _ _ h3⟩
 |arr s es=>
  rcases r with r|⟨vs,T,h1,h2,h3,h5,h4⟩
  ·exact .inl r
  ·exact .inr ⟨vs,T,e.trans h1,h2,h3,h5,gp.mono hle rle _ _ h4⟩
 |map es=>
  obtain⟨ms,ck,h1,h2,h3,h4⟩:=r;exact⟨ms,ck,e.trans h1,RepM.mono hle rle _ _ h2,h3,h4⟩
 |pin t b=>exact⟨r.1,rle _ _ r.2⟩
def zaj.notReal{p:Nat × Nat}{blk:Blk}(hn:¬Real blk p)(r:zaj h ρ p blk w)(h':PH){ρ':RM}(rle:ρ.le ρ')(w':Heap):zaj h' ρ' p blk w':=by
 cases blk with
 |non=>trivial
 |dead=>trivial
 |box cs=>exact absurd trivial hn
 |arr s es=>
  have h0:p.2=0:=by simp only[Real]at hn;omega
  rcases r with r|⟨vs,T,h1,h2,h3,h5,h4⟩
  ·exact .inl r
  ·exact .inl ⟨h0,aa.1 (by omega)⟩
 |map es=>exact absurd trivial hn
 |pin t b=>exact⟨r.1,rle _ _ r.2⟩
def zaj.lt{p:Nat × Nat}{blk:Blk}(hn:Real blk p)(r:zaj h ρ p blk w):p.1<w.size:=by
 have key:∀o,w[p.1]?=some o->p.1<w.size:=λo e=>by
  rcases aX p.1 w.size with h1|h1
  ·exact h1
  ·rw[af h1]at e;cases e
 cases blk with
 |non=>exact hn.elim
 |dead=>exact hn.elim
 |pin t b=>exact hn.elim
 |box cs=>obtain⟨vs,T,h1,_⟩:=r;exact key _ h1
 |arr s es=>
  rcases r with r|⟨vs,T,h1,_⟩
  ·simp only[Real]at hn;omega
  ·exact key _ h1
 |map es=>obtain⟨vs,T,h1,_⟩:=r;exact key _ h1
def HRel.real_lt(H:HRel h ρ m w){b:Nat}{p:Nat × Nat}(e:ρ b=some p)(hr:Real (m b) p):p.1<w.size:=zaj.lt hr (H.own b p e)
def HRel.grow(H:HRel h ρ m w)(hle:h.le h')(hp:∀B o,h' B=some o->w'[B]?=some o)
  (hf:∀B,B<w.size->¬jm ρ m B->w'[B]?=w[B]?/\h' B=h B):HRel h' ρ m w' where
 pers:=hp
 dom:=H.dom
 own b p e:=by
  by_cases hr:Real (m b) p
  ·exact zaj.congr hle (fA _) (hf p.1 (H.real_lt e hr) (λhh=>hh b p e hr rfl)).1 (H.own b p e)
  ·exact zaj.notReal hr (H.own b p e) _ (fA _) _
 inj:=H.inj
 sep b p e hr:=by
  rw[(hf p.1 (H.real_lt e hr) (λhh=>hh b p e hr rfl)).2];exact H.sep b p e hr
def Ct(w:Heap)(o:Obj){B:Nat}(hB:B<w.size):(w.push o)[B]?=w[B]?:=by
 rw[Array.getElem?_push,aA (by omega)]
def Cu(w:Heap)(o:Obj):(w.push o)[w.size]?=some o:=by simp
def HRel.pushP(H:HRel h ρ m w)(o:Obj):HRel (upd h w.size (some o)) ρ m (w.push o)/\Step h ρ m w (upd h w.size (some o)) ρ m (w.push o):=by
 have hle:h.le (upd h w.size (some o)):=λB q e=>by
  have:=H.lt e;rw[zah _ _ (by omega)];exact e
 refine⟨H.grow hle ?_ ?_,⟨hle,λB hB _=>zah _ _ (by omega),fA _,by simp,λB hB _=>Ct _ _ hB,λb p e hr=>.inr ⟨b,p,e,hr,rfl⟩⟩⟩
 ·intro B q e;by_cases hB:B=w.size
  ·subst hB;rw[zae]at e;rw[Cu];exact e
  ·rw[zah _ _ hB]at e;rw[Ct _ _ (H.lt e)];exact H.pers B q e
 ·intro B hB _;exact⟨Ct _ _ hB,zah _ _ (by omega)⟩
def BO{b:Nat}{p:Nat × Nat}(e:ρ b=none):ρ.le (upd ρ b (some p)):=λc q hc=>by
 by_cases hcb:c=b
 ·subst hcb;rw[e]at hc;cases hc
 ·rw[zah _ _ hcb];exact hc
def HRel.pushO(H:HRel h ρ m w)(o:Obj){b:Nat}(hb:m b=.non)(cap:Nat){blk:Blk}(hlive:blk≠.non)
  (hrep:zaj h (upd ρ b (some (w.size,cap))) (w.size,cap) blk (w.push o)):
  HRel h (upd ρ b (some (w.size,cap))) (upd m b blk) (w.push o)/\Step h ρ m w h (upd ρ b (some (w.size,cap))) (upd m b blk) (w.push o):=by
 have e0:ρ b=none:=(H.dom b).1 hb;have rle:=BO (p:=(w.size,cap)) e0;refine⟨⟨?_,?_,?_,?_,?_⟩,⟨eZ h,λB hB _=>rfl,rle,by simp,λB hB _=>Ct _ _ hB,?_⟩⟩
 ·intro B q e;rw[Ct _ _ (H.lt e)];exact H.pers B q e
 ·intro c;by_cases hc:c=b
  ·subst hc;simp[zae,hlive]
  ·rw[zah _ _ hc,zah _ _ hc];exact H.dom c
 ·intro c p e;by_cases hc:c=b
  ·subst hc;rw[zae]at e⊢;cases e;exact hrep
  ·rw[zah _ _ hc]at e⊢;by_cases hr:Real (m c) p
   ·exact zaj.congr (eZ h) rle (Ct _ _ (H.real_lt e hr)) (H.own c p e)
   ·exact zaj.notReal hr (H.own c p e) _ rle _
 ·intro c d p q hc hd hr hs e;by_cases h1:c=b<;>by_cases h2:d=b
  ·rw[h1,h2]
  ·subst h1;rw[zae]at hc;cases hc;rw[zah _ _ h2]at hd hs;have:=H.real_lt hd hs;simp at e;omega
  ·subst h2;rw[zae]at hd;cases hd;rw[zah _ _ h1]at hc hr;have:=H.real_lt hc hr;simp at e;omega
  ·rw[zah _ _ h1]at hc hr;rw[zah _ _ h2]at hd hs;exact H.inj c d p q hc hd hr hs e
 ·intro c p e hr;by_cases hc:c=b
  ·subst hc;rw[zae]at e;cases e;cases hh:h w.size with
   |none=>rfl
   |some q=>have:=H.lt hh;omega
  ·rw[zah _ _ hc]at e hr;exact H.sep c p e hr
 ·intro c p e hr;by_cases hc:c=b
  ·subst hc;rw[zae]at e;cases e;exact .inl (aK _)
  ·rw[zah _ _ hc]at e hr;exact .inr ⟨c,p,e,hr,rfl⟩
def Cv(w:Heap)(i:Nat)(o:Obj){B:Nat}(hB:B≠i):(w.setIfInBounds i o)[B]?=w[B]?:=by
 rw[bM (Ne.symm hB)]
def Cw(w:Heap){i:Nat}(o:Obj)(hi:i<w.size):(w.setIfInBounds i o)[i]?=some o:=by
 simp[cB,hi]
def HRel.set(H:HRel h ρ m w)(o:Obj){b:Nat}{p:Nat × Nat}(e:ρ b=some p)(hr:Real (m b) p){blk:Blk}(hlive:blk≠.non)
  (hrep:zaj h ρ p blk (w.setIfInBounds p.1 o)):
  HRel h ρ (upd m b blk) (w.setIfInBounds p.1 o)/\Step h ρ m w h ρ (upd m b blk) (w.setIfInBounds p.1 o):=by
 refine⟨⟨?_,?_,?_,?_,?_⟩,⟨eZ h,λB hB _=>rfl,fA _,by simp,?_,?_⟩⟩
 ·intro B q hq;rw[Cv _ _ _ (λhh=>by subst hh;rw[H.sep b p e hr]at hq;cases hq)];exact H.pers B q hq
 ·intro c;by_cases hc:c=b
  ·subst hc;rw[zae,e];simp[hlive]
  ·rw[zah _ _ hc];exact H.dom c
 ·intro c q hq;by_cases hc:c=b
  ·subst hc;rw[zae];rw[e]at hq;cases hq;exact hrep
  ·rw[zah _ _ hc];by_cases hs:Real (m c) q
   ·exact zaj.congr (eZ h) (fA ρ) (Cv _ _ _ (λhh=>hc (H.inj c b q p hq e hs hr hh))) (H.own c q hq)
   ·exact zaj.notReal hs (H.own c q hq) _ (fA _) _
 ·intro c d q r hc hd hs ht heq;by_cases h1:c=b<;>by_cases h2:d=b
  ·rw[h1,h2]
  ·subst h1;rw[zah _ _ h2]at ht;rw[e]at hc;cases hc;exact H.inj _ _ _ _ e hd hr ht heq
  ·subst h2;rw[zah _ _ h1]at hs;rw[e]at hd;cases hd;exact H.inj _ _ _ _ hc e hs hr heq
  ·rw[zah _ _ h1]at hs;rw[zah _ _ h2]at ht;exact H.inj c d q r hc hd hs ht heq
 ·intro c q hq hs;by_cases hc:c=b
  ·subst hc;rw[e]at hq;cases hq;exact H.sep _ _ e hr
  ·rw[zah _ _ hc]at hs;exact H.sep c q hq hs
 ·intro B hB hf;exact Cv _ _ _ (λhh=>hf b p e hr hh.symm)
 ·intro c q hq hs;by_cases hc:c=b
  ·subst hc;rw[e]at hq;cases hq;exact .inr ⟨_,_,e,hr,rfl⟩
  ·rw[zah _ _ hc]at hs;exact .inr ⟨c,q,hq,hs,rfl⟩
def HRel.kill(H:HRel h ρ m w){b:Nat}(hb:m b≠.non):HRel h ρ (upd m b .dead) w/\Step h ρ m w h ρ (upd m b .dead) w:=by
 refine⟨⟨H.pers,?_,?_,?_,?_⟩,⟨eZ h,λB hB _=>rfl,fA _,aK _,λB hB _=>rfl,?_⟩⟩
 ·intro c;by_cases hc:c=b
  ·subst hc;rw[zae];constructor
   ·intro h;cases h
   ·intro h;exact absurd ((H.dom _).2 h) hb
  ·rw[zah _ _ hc];exact H.dom c
 ·intro c q hq;by_cases hc:c=b
  ·subst hc;rw[zae];trivial
  ·rw[zah _ _ hc];exact H.own c q hq
 ·intro c d q r hc hd hs ht heq;by_cases h1:c=b
  ·subst h1;rw[zae]at hs;exact hs.elim
  by_cases h2:d=b
  ·subst h2;rw[zae]at ht;exact ht.elim
  rw[zah _ _ h1]at hs;rw[zah _ _ h2]at ht;exact H.inj c d q r hc hd hs ht heq
 ·intro c q hq hs;by_cases hc:c=b
  ·subst hc;rw[zae]at hs;exact hs.elim
  ·rw[zah _ _ hc]at hs;exact H.sep c q hq hs
 ·intro c q hq hs;by_cases hc:c=b
  ·subst hc;rw[zae]at hs;exact hs.elim
  ·rw[zah _ _ hc]at hs;exact .inr ⟨c,q,hq,hs,rfl⟩
def HRel.move(H:HRel h ρ m w)(o:Obj){b c:Nat}{p:Nat × Nat}(e:ρ b=some p)(hr:Real (m b) p)(hc:m c=.non){blk:Blk}(hlive:blk≠.non)
  (hrep:zaj h (upd ρ c (some p)) p blk (w.setIfInBounds p.1 o)):
  HRel h (upd ρ c (some p)) (upd (upd m b .dead) c blk) (w.setIfInBounds p.1 o)/\Step h ρ m w h (upd ρ c (some p)) (upd (upd m b .dead) c blk) (w.setIfInBounds p.1 o):=by
 have hbn:m b≠.non:=λhh=>by rw[hh]at hr;exact hr
 have hcb:c≠b:=λhh=>by subst hh;exact hbn hc
 have e0:ρ c=Option.none:=(H.dom c).1 hc;have rle:=BO (p:=p) e0;refine⟨⟨?_,?_,?_,?_,?_⟩,⟨eZ h,λB hB _=>rfl,rle,by simp,?_,?_⟩⟩
 ·intro B q hq;rw[Cv _ _ _ (λhh=>by subst hh;rw[H.sep b p e hr]at hq;cases hq)];exact H.pers B q hq
 ·intro d;by_cases hd:d=c
  ·subst hd;simp[zae,hlive]
  ·rw[zah _ _ hd,zah _ _ hd];by_cases hb:d=b
   ·subst hb;rw[zae,e];simp
   ·rw[zah _ _ hb];exact H.dom d
 ·intro d q hq;by_cases hd:d=c
  ·subst hd;rw[zae]at hq⊢;cases hq;exact hrep
  ·rw[zah _ _ hd]at hq⊢;by_cases hb:d=b
   ·subst hb;rw[zae];trivial
   ·rw[zah _ _ hb];by_cases hs:Real (m d) q
    ·exact zaj.congr (eZ h) rle (Cv _ _ _ (λhh=>hb (H.inj d b q p hq e hs hr hh))) (H.own d q hq)
    ·exact zaj.notReal hs (H.own d q hq) _ rle _
 ·intro d d' q q' hd hd' hs hs' heq;have hdb:d≠b:=λhh=>by subst hh;rw[zah _ _ (Ne.symm hcb),zae]at hs;exact hs
  have hdb':d'≠b:=λhh=>by subst hh;rw[zah _ _ (Ne.symm hcb),zae]at hs';exact hs'
  by_cases h1:d=c<;>by_cases h2:d'=c
  ·rw[h1,h2]
  ·subst h1;rw[zae]at hd;cases hd;rw[zah _ _ h2]at hd' hs';rw[zah _ _ hdb']at hs';exact absurd (H.inj d' b q' p hd' e hs' hr heq.symm) hdb'
  ·subst h2;rw[zae]at hd';cases hd';rw[zah _ _ h1]at hd hs;rw[zah _ _ hdb]at hs;exact absurd (H.inj d b q p hd e hs hr heq) hdb
  ·rw[zah _ _ h1]at hd hs;rw[zah _ _ h2]at hd' hs';rw[zah _ _ hdb]at hs;rw[zah _ _ hdb']at hs';exact H.inj d d' q q' hd hd' hs hs' heq
 ·intro d q hq hs;by_cases hd:d=c
  ·subst hd;rw[zae]at hq;cases hq;exact H.sep b p e hr
  ·rw[zah _ _ hd]at hq hs;have hdb:d≠b:=λhh=>by subst hh;rw[zae]at hs;exact hs
   rw[zah _ _ hdb]at hs;exact H.sep d q hq hs
 ·intro B hB hf;exact Cv _ _ _ (λhh=>hf b p e hr hh.symm)
 ·intro d q hq hs;by_cases hd:d=c
  ·subst hd;rw[zae]at hq;cases hq;exact .inr ⟨b,p,e,hr,rfl⟩
  ·rw[zah _ _ hd]at hq hs;have hdb:d≠b:=λhh=>by subst hh;rw[zae]at hs;exact hs
   rw[zah _ _ hdb]at hs;exact .inr ⟨d,q,hq,hs,rfl⟩
def HRel.none(H:HRel h ρ m w){b:Nat}(hb:m b=.non)(s:Nat):
  HRel h (upd ρ b (some (0,0))) (upd m b (.arr s [])) w/\Step h ρ m w h (upd ρ b (some (0,0))) (upd m b (.arr s [])) w:=by
 have e0:ρ b=Option.none:=(H.dom b).1 hb;have rle:=BO (p:=(0,0)) e0;refine⟨⟨H.pers,?_,?_,?_,?_⟩,⟨eZ h,λB hB _=>rfl,rle,aK _,λB hB _=>rfl,?_⟩⟩
 ·intro d;by_cases hd:d=b
  ·subst hd;simp[zae]
  ·rw[zah _ _ hd,zah _ _ hd];exact H.dom d
 ·intro d r hr;by_cases hd:d=b
  ·subst hd;rw[zae]at hr⊢;cases hr;exact .inl ⟨rfl,rfl⟩
  ·rw[zah _ _ hd]at hr⊢;exact zaj.congr (eZ h) rle rfl (H.own d r hr)
 ·intro d d' r r' hd hd' hs hs' heq;by_cases h1:d=b
  ·subst h1;rw[zae]at hd hs;cases hd;simp[Real]at hs
  by_cases h2:d'=b
  ·subst h2;rw[zae]at hd' hs';cases hd';simp[Real]at hs'
  rw[zah _ _ h1]at hd hs;rw[zah _ _ h2]at hd' hs';exact H.inj d d' r r' hd hd' hs hs' heq
 ·intro d r hr hs;by_cases hd:d=b
  ·subst hd;rw[zae]at hr hs;cases hr;simp[Real]at hs
  ·rw[zah _ _ hd]at hr hs;exact H.sep d r hr hs
 ·intro d r hr hs;by_cases hd:d=b
  ·subst hd;rw[zae]at hr hs;cases hr;simp[Real]at hs
  ·rw[zah _ _ hd]at hr hs;exact .inr ⟨d,r,hr,hs,rfl⟩
def HRel.freeze(H:HRel h ρ m w){b:Nat}{p:Nat × Nat}(e:ρ b=some p)(hr:Real (m b) p):
  HRel (upd h p.1 w[p.1]?) ρ (upd m b .dead) w/\Step h ρ m w (upd h p.1 w[p.1]?) ρ (upd m b .dead) w:=by
 have hlt:=H.real_lt e hr;have hle:h.le (upd h p.1 w[p.1]?):=λB q hq=>by
  by_cases hB:B=p.1
  ·subst hB;rw[H.sep b p e hr]at hq;cases hq
  ·rw[zah _ _ hB];exact hq
 obtain⟨K,S⟩:=H.kill (b:=b) (λhh=>by rw[hh]at hr;exact hr);refine⟨⟨?_,K.dom,?_,K.inj,?_⟩,⟨hle,?_,fA _,aK _,λB hB _=>rfl,S.own⟩⟩
 ·intro B q hq;by_cases hB:B=p.1
  ·subst hB;rw[zae]at hq;exact hq
  ·rw[zah _ _ hB]at hq;exact H.pers B q hq
 ·intro c q hq;exact zaj.congr hle (fA _) rfl (K.own c q hq)
 ·intro c q hq hs;have hcb:c≠b:=λhh=>by subst hh;rw[zae]at hs;exact hs
  rw[zah _ _ hcb]at hs;rw[zah _ _ (λhh=>hcb (H.inj c b q p hq e hs hr hh))];exact H.sep c q hq hs
 ·intro B hB hf;rw[zah _ _ (λhh=>hf b p e hr hh.symm)]
end
end Go.Abs
namespace Go.Abs
def fe{α:Type}(P:Program)(x:Sem α)(w:World)(a:α)(w':World):Prop:=x.run P w=.ok a w'
section
variable {P:Program} {w w' w'':World}
def uI{α β:Type}{f:α->Sem β}{a:α}:∀{x:Sem α} {w w':World},fe P x w a w'->(x.bind f).run P w=(f a).run P w'
 |.pure b,w,w',h=>by simp[fe,Sem.run]at h;obtain⟨rfl,rfl⟩:=h;rfl
 | .load m p k,w,w',h=>by
   simp only[fe,Sem.run]at h;simp only[Sem.bind,Sem.run];split at h
   · exact uI h
   · split at h
     · exact uI h
     · cases h
 | .store m p v k,w,w',h=>by
   simp only[Sem.bind];unfold fe at h
   cases v<;>simp only[Sem.run]at h⊢<;>first
     |(cases h;done)
     | (split at h
        · split at h
          · cases h
          · rename_i hf;simp only[hf];exact uI h
        · split at h
          · exact uI h
          · cases h)
 |.new o k,w,w',h=>by simp only[fe,Sem.run]at h;simp only[Sem.bind,Sem.run];exact uI h
 |.shape r k,w,w',h=>by simp only[fe,Sem.run]at h;simp only[Sem.bind,Sem.run];exact uI h
 |.freeze a n k,w,w',h=>by simp only[fe,Sem.run]at h;simp only[Sem.bind,Sem.run];exact uI h
 |.frozen a k,w,w',h=>by simp only[fe,Sem.run]at h;simp only[Sem.bind,Sem.run];exact uI h
 | .getObj r k,w,w',h=>by
   simp only[fe,Sem.run]at h;simp only[Sem.bind,Sem.run];split at h
   · cases h
   · exact uI h
   · cases h
 | .setObj r o k,w,w',h=>by
   simp only[fe,Sem.run]at h;simp only[Sem.bind,Sem.run];split at h
   · cases h
   · exact uI h
   · cases h
 | .choose q k,w,w',h=>by
   simp only[fe,Sem.run]at h;simp only[Sem.bind,Sem.run];split at h
   · rename_i hq;rw[aB hq];exact uI h
   · rename_i hq;rw[aA hq];exact uI h
 |.sys c k,w,w',h=>by simp only[fe,Sem.run]at h;simp only[Sem.bind,Sem.run];exact uI h
 |.program k,w,w',h=>by simp only[fe,Sem.run]at h;simp only[Sem.bind,Sem.run];exact uI h
 |.mark m k,w,w',h=>by simp only[fe,Sem.run]at h;simp only[Sem.bind,Sem.run];exact uI h
 |.halt x,w,w',h=>by simp[fe,Sem.run]at h
def fe.bind{α β:Type}{x:Sem α}{f:α->Sem β}{a:α}{b:β}(h:fe P x w a w')(k:fe P (f a) w' b w''):fe P (x>>=f) w b w'':=by
 show(x.bind f).run P w=_;rw[uI h];exact k
theorem fe.pure{α:Type}(a:α):fe P (Pure.pure a) w a w:=rfl
def fe.map{α β:Type}{x:Sem α}{f:α->β}{a:α}(h:fe P x w a w'):fe P (Functor.map f x) w (f a) w':=by
 show fe P (x>>=λa=>Pure.pure (f a)) w (f a) w';exact h.bind (fe.pure _)
theorem fe.program:fe P program w P w:=rfl
def fe.typeInfo{t:TypeId}{i:TypeInfo}(h:P.info? t=some i):fe P (typeInfo t) w i w:=by
 simp[fe,Go.typeInfo,Bind.bind,Sem.bind,Sem.run,Go.program,h,Pure.pure]
def fe.underlying{t:TypeId}{d:TypeDesc}(h:P.underlying t=some d):fe P (underlying t) w d w:=by
 simp[fe,Go.underlying,Bind.bind,Sem.bind,Sem.run,Go.program,h,Pure.pure]
def fe.sizeOf{t:TypeId}{i:TypeInfo}(h:P.info? t=some i):fe P (sizeOf t) w i.size w:=(fe.typeInfo h).bind (fe.pure _)
def fe.zeroValue{t:TypeId}{i:TypeInfo}{z:Value}(h:P.info? t=some i)(hz:i.zero=some z):fe P (zeroValue t) w z w:=by
 unfold Go.zeroValue;refine(fe.typeInfo h).bind ?_;simp only[hz];exact fe.pure _
def fe.load{a:Addr}{v:Value}(h:w.cell? a=some v):fe P (load a) w v w:=by
 simp[fe,Go.load,Sem.run,h]
def fe.store{a:Addr}{u v:Value}(h:w.cell? a=some u)(hf:w.frozen? a=false)(h1:v.one1=true):fe P (store a v) w () (w.setCell a v):=by
 cases v<;>simp_all[fe,Go.store,Sem.run,Value.one1]
theorem fe.newObj(o:Obj):fe P (newObj o) w w.heap.size {w with heap:=w.heap.push o}:=rfl
def fe.getObj{r:Nat}{o:Obj}(h:w.heap[r]?=some o)(hc:∀c e f,o≠.cells c e f):fe P (getObj r) w o w:=by
 unfold fe;simp only[Go.getObj,Sem.run,h]
def fe.setObj{r:Nat}{o o':Obj}(h:w.heap[r]?=some o)(hc:∀c e f,o≠.cells c e f):fe P (setObj r o') w () {w with heap:=w.heap.setIfInBounds r o'}:=by
 unfold fe;simp only[Go.setObj,Sem.run,h]
theorem fe.mark(m:Mark):fe P (mark m) w () w:=rfl
def fe.askRoom(n:Nat):fe P (askRoom n) w () w:=by
 unfold Go.askRoom;split
 · exact fe.mark _
 · exact fe.pure _
def cell_of{B o:Nat}{c:Array Value}{T:TypeId}{fr:Nat × Nat}(h:w.heap[B]?=some (.cells c T fr)):w.cell? ⟨B,o,none⟩=c[o]?:=by
 simp[World.cell?,h]
def QS{B o:Nat}{c:Array Value}{T:TypeId}(h:w.heap[B]?=some (.cells c T (0,0))):w.frozen? ⟨B,o,none⟩=false:=by
 simp[World.frozen?,h]
def addr_add(B o n:Nat):(⟨B,o,none⟩:Addr).add n=⟨B,o+n,none⟩:=by
 unfold Addr.add;split
 · simp[*]
 · rfl
def fe.loadCellsFrom (B o:Nat):∀(vs:List Value) (i:Nat) (acc:Array Value),(∀j v,vs[j]?=some v->w.cell? ⟨B,o+i+j,none⟩=some v)->
   fe P (loadCellsFrom ⟨B,o,none⟩ i vs.length acc) w (acc++vs.toArray) w
 |[],i,acc,_=>by simp[Go.loadCellsFrom];exact fe.pure _
 | v ::vs,i,acc,h=>by
   simp only[List.length_cons,Go.loadCellsFrom];refine fe.bind (a:=v) (w':=w) ?_ ?_
   · rw[addr_add];exact fe.load (by simpa using h 0 v (by simp))
   · have:=fe.loadCellsFrom B o vs (i+1) (acc.push v) (λj u hj=>by
       have:=h (j+1) u (by simpa using hj)
       rw[show o+(i+1)+j=o+i+(j+1)from by omega];exact this)
     have e:acc++(v::vs).toArray=acc.push v++vs.toArray:=by
       apply cu;simp
     rw[e];exact this
def fe.loadCells{B o:Nat}{vs:List Value}(h:∀j v,vs[j]?=some v->w.cell? ⟨B,o+j,none⟩=some v):fe P (loadCells ⟨B,o,none⟩ vs.length) w vs.toArray w:=by
 have:=fe.loadCellsFrom (P:=P) (w:=w) B o vs 0 #[] (by simpa using h);rw[show(#[]:Array Value)++vs.toArray=vs.toArray from by simp]at this;exact this
def fe.loadCells0(a:Addr)(w:World):fe P (Go.loadCells a 0) w (#[]:Array Value) w:=by
 unfold Go.loadCells Go.loadCellsFrom;exact fe.pure _
def splice{α:Type}:List α->Nat->List α->List α
 |cs,_,[]=>cs
 |cs,o,v::vs=>splice (cs.set o v) (o+1) vs
def zG{α:Type}:∀(vs cs:List α) (o:Nat),(splice cs o vs).length=cs.length
 |[],cs,o=>rfl
 |v::vs,cs,o=>by simp[splice,zG vs]
def World.cellsAt(w:World)(B:Nat)(vs:List Value)(T:TypeId):World:={w with heap:=w.heap.setIfInBounds B (.cells vs.toArray T (0,0))}
def setCell_eq{B o:Nat}{vs:List Value}{T:TypeId}(h:w.heap[B]?=some (.cells vs.toArray T (0,0)))(v:Value):
   w.setCell ⟨B,o,none⟩ v=World.cellsAt w B (vs.set o v) T:=by
 have hB:B<w.heap.size:=by
   rcases aX B w.heap.size with h1|h1
   · exact h1
   · rw[af h1]at h;cases h
 unfold World.setCell World.cellsAt;congr 1;apply Array.ext_getElem?;intro i;rw[Array.getElem?_modify];by_cases hi:B=i
 · subst hi;rw[aB rfl,h,cB,aB hB];simp
 · rw[aA hi,bM hi]
def zd8{B:Nat}{vs:List Value}{T:TypeId}(hB:B<w.heap.size):(World.cellsAt w B vs T).heap[B]?=some (.cells vs.toArray T (0,0)):=by
 simp[World.cellsAt,hB]
def zdz(B:Nat)(vs us:List Value)(T:TypeId):World.cellsAt (World.cellsAt w B vs T) B us T=World.cellsAt w B us T:=by
 unfold World.cellsAt;simp
def fe.storeCells {B:Nat} {T:TypeId} (o:Nat):∀(vs:List Value) (i:Nat) (cs:List Value) (w:World),w.heap[B]?=some (.cells cs.toArray T (0,0))->o+i+vs.length<=cs.length->
   (∀v,v∈vs->v.one1=true)->vs≠[]->fe P (storeCells ⟨B,o,none⟩ vs i) w () (World.cellsAt w B (splice cs (o+i) vs) T)
 |[],i,cs,w,_,_,_,h0=>absurd rfl h0
 | v ::vs,i,cs,w,h,hl,h1,_=>by
   simp only[Go.storeCells];have hB:B<w.heap.size:=by
     rcases aX B w.heap.size with h1|h1
     · exact h1
     · rw[af h1]at h;cases h
   simp only[List.length_cons]at hl;have hs:fe P (Go.store ((⟨B,o,none⟩:Addr).add i) v) w () (World.cellsAt w B (cs.set (o+i) v) T):=by
     rw[addr_add,<-setCell_eq h];have hc:w.cell? ⟨B,o+i,none⟩=some cs[o+i]:=by
       rw[cell_of h];simp[aD (by omega:o+i<cs.length)]
     exact fe.store hc (QS h) (h1 v (by simp))
   refine hs.bind ?_;cases vs with
   |nil=>simp only[Go.storeCells,splice];exact fe.pure _
   | cons u us=>
     have:=fe.storeCells o (u::us) (i+1) (cs.set (o+i) v) (World.cellsAt w B (cs.set (o+i) v) T) (zd8 hB)
       (by simp at hl⊢;omega) (λx hx=>h1 x (by simp[hx])) (by simp)
     rw[zdz]at this;exact this
end
abbrev dx:=@fe.pure
abbrev dz:=@fe.bind
abbrev eT:=@fe.underlying
abbrev fD:=@fe.sizeOf
abbrev fE:=@fe.zeroValue
abbrev fF:=@fe.typeInfo
abbrev fG:=@fe.loadCells
abbrev fH:=@fe.newObj
end Go.Abs
namespace Go.Abs
def Same(w w':World):Prop:=w'.os=w.os/\w'.tape=w.tape/\w'.output=w.output
def Same.refl(w:World):Same w w:=⟨rfl,rfl,rfl⟩
def Same.trans{a b c:World}(h:Same a b)(k:Same b c):Same a c:=⟨k.1.trans h.1,k.2.1.trans h.2.1,k.2.2.trans h.2.2⟩
def jc:Hp->List (Nat × Blk)->Hp
|m,[]=>m
|m,(b,x)::l=>jc (upd m b x) l
def spN(c:Nat):Int:=if 9<=c/\c<=13\/c=32 then 1 else 0
def p10V:Array Value:=((List.range 20).map λi=>Value.int .u64 ((10^i:Nat):Int)).toArray
def Gnd (P : Program) (h : PH) : Prop := (∀ g, P.globalNamed "strings.asciiSpace" = some g -> ∃ o, h g = some o /\ ∀ w : World, w.heap[g]? = some o -> ∀ c, c < 256 -> w.cell? ⟨g, c, none⟩ = some (.int .u8 (spN c))) /\
∀ g, P.globalNamed "internal/strconv.uint64pow10" = some g -> ∃ o, h g = some o /\ ∀ w : World, w.heap[g]? = some o -> w.var? P "internal/strconv.uint64pow10" = some p10V
def Gnd.mono{P:Program}{h h':PH}(k:Gnd P h)(le:h.le h'):Gnd P h':=⟨λg e=>by
 obtain⟨o,h1,h2⟩:=k.1 g e;exact⟨o,le g o h1,h2⟩,λg e=>by
 obtain⟨o,h1,h2⟩:=k.2 g e
 exact⟨o,le g o h1,h2⟩⟩
class jQ where
 ok:PH->(Nat->Prop)->World->Prop
 mono:∀{h h':PH} {F F':Nat->Prop} {w w':World},ok h F w->h.le h'->w.heap.size<=w'.heap.size->(∀B,B<w.heap.size->F B->h' B=h B/\w'.heap[B]?=w.heap[B]?/\F' B)->ok h' F' w'
 row:Nat->Option (List D)
 get:∀{h:PH} {F:Nat->Prop} {w:World} {B:Nat} {ds:List D},ok h F w->row B=some ds->∃(vs:List Value) (T:TypeId),w.heap[B]?=some (.cells vs.toArray T (0,0))/\vs.length=ds.length/\RepL h ds vs
@[reducible] def jQ.triv:jQ:=⟨λ_ _ _=>True,λ_ _ _ _=>trivial,λ_=>none,λ_ e=>by cases e⟩
variable [jQ]
def gz(P:Program)(o:Oper)(get:Nat->AV)(m:Hp)(rd:List Nat)(wr:List (Nat × Blk))(v:AV):Prop:=
∀ m':Hp,(∀b,b∈rd->m' b=m b)->(∀x,x∈wr->m' x.1=m x.1)->∀(h:PH) (ρ:RM) (w:World) (a:Act),HRel h ρ m' w.heap->Gnd P h->jQ.ok h (jm ρ m') w->
 (∀k,Operand.tmp k∈o.op.operands->RepV h ρ (get k) (a.tmps.getD k undef))->
 ∀(next:Act->World->Prop) (Q:Exit->Act->World->Prop),
  (∀(h':PH) (ρ':RM) (w':World) (vC:Value),Step h ρ m' w.heap h' ρ' (jc m' wr) w'.heap->HRel h' ρ' (jc m' wr) w'.heap->Same w w'->RepV h' ρ' v vC->next (a.put o.dst vC) w')->
  o.wp P a w next Q
section
variable {P:Program} {o:Oper} {get:Nat->AV} {m:Hp} {rd:List Nat} {wr:List (Nat × Blk)} {v:AV}
def gz.of_value(H:∀m':Hp,(∀b,b∈rd->m' b=m b)->(∀x,x∈wr->m' x.1=m x.1)->∀(h:PH) (ρ:RM) (w:World) (a:Act),HRel h ρ m' w.heap->
  (∀k,Operand.tmp k∈o.op.operands->RepV h ρ (get k) (a.tmps.getD k undef))->
  ∃(h':PH) (ρ':RM) (w':World) (vC:Value),fe P (execOp a.eval o) w (.value vC) w'/\Step h ρ m' w.heap h' ρ' (jc m' wr) w'.heap/\HRel h' ρ' (jc m' wr) w'.heap/\Same w w'/\RepV h' ρ' v vC):
  gz P o get m rd wr v:=by
 intro m' h1 h2 h ρ w a hr _ _ hg next Q hn;obtain⟨h',ρ',w',vC,r,s,k,e,p⟩:=H m' h1 h2 h ρ w a hr hg;unfold Oper.wp;rw[show(execOp a.eval o).run P w=.ok (.value vC) w' from r];exact hn h' ρ' w' vC s k e p
def gz.of_skip(H:∀m':Hp,(∀b,b∈rd->m' b=m b)->(∀x,x∈wr->m' x.1=m x.1)->∀(h:PH) (ρ:RM) (w:World) (a:Act),HRel h ρ m' w.heap->
  (∀k,Operand.tmp k∈o.op.operands->RepV h ρ (get k) (a.tmps.getD k undef))->
  ∃(h':PH) (ρ':RM) (w':World),fe P (execOp a.eval o) w .skip w'/\Step h ρ m' w.heap h' ρ' (jc m' wr) w'.heap/\HRel h' ρ' (jc m' wr) w'.heap/\Same w w'):
  gz P o get m rd wr (.c (.d .any)):=by
 intro m' h1 h2 h ρ w a hr _ _ hg next Q hn;obtain⟨h',ρ',w',r,s,k,e⟩:=H m' h1 h2 h ρ w a hr hg;unfold Oper.wp;rw[show(execOp a.eval o).run P w=.ok .skip w' from r];exact hn h' ρ' w' undef s k e trivial
def gz.of_pureS(H:∀m':Hp,(∀b,b∈rd->m' b=m b)->∀(h:PH) (ρ:RM) (w:World) (a:Act),HRel h ρ m' w.heap->jQ.ok h (jm ρ m') w->
  (∀k,Operand.tmp k∈o.op.operands->RepV h ρ (get k) (a.tmps.getD k undef))->∃vC,fe P (execOp a.eval o) w (.value vC) w/\RepV h ρ v vC):gz P o get m rd [] v:=by
 intro m' h1 h2 h ρ w a hr _ hS hg next Q hn;obtain⟨vC,r,p⟩:=H m' h1 h ρ w a hr hS hg;unfold Oper.wp;rw[show(execOp a.eval o).run P w=.ok (.value vC) w from r];exact hn h ρ w vC (Step.refl _ _ _ _) hr (Same.refl w) p
def gz.of_pure(H:∀m':Hp,(∀b,b∈rd->m' b=m b)->∀(h:PH) (ρ:RM) (w:World) (a:Act),HRel h ρ m' w.heap->
  (∀k,Operand.tmp k∈o.op.operands->RepV h ρ (get k) (a.tmps.getD k undef))->∃vC,fe P (execOp a.eval o) w (.value vC) w/\RepV h ρ v vC):gz P o get m rd [] v:=
 gz.of_value λm' h1 h2 h ρ w a hr hg=>
  let⟨vC,r,p⟩:=H m' h1 h ρ w a hr hg
  ⟨h,ρ,w,vC,r,Step.refl _ _ _ _,hr,Same.refl w,p⟩
end
inductive MX where
|t (k:Nat)
|k (x:D)
|a (xs:List D)
def X(get:Nat->AV):MX->AV
|.t k=>get k
|.k x=>.c (.d x)
|.a xs=>.ag (xs.map .d)
def Gw:D->Value->Bool
|.int k n,.int k' n'=>decide (k=k')&&decide (n=n')&&decide (k.min<=n)&&decide (n<=k.max)
|.bool b,.bool b'=>b==b'
|.str s,.string s'=>decide (s=s')&&decide (s.size<=zao)
|.sl _ _ [],.slice none 0 0=>true
|.sc (.slice none 0 0),.slice none 0 0=>true
|.sc (.pointer none),.pointer none=>true
|.sc .nilFunc,.nilFunc=>true
|.sc .nilIface,.nilIface=>true
|.sc (.map none),.map none=>true
|_,_=>false
def QT{x:D}{v:Value}(h:Gw x v=true)(ph:PH):RepD ph x v:=by
 unfold Gw at h;split at h
 ·simp only[aC,aI]at h;obtain⟨⟨⟨rfl,rfl⟩,h1⟩,h2⟩:=h;simp[RepD,h1,h2]
 ·simp at h;simp[RepD,h]
 ·simp at h;simp[RepD,h.1];rw[<-h.1];exact h.2
 ·unfold RepD;exact⟨none,0,rfl,aK _,λ_=>rfl,by simp,λ_=>⟨rfl,rfl⟩,λp hp=>(by cases hp),(by simp[RepE])⟩
 ·simp[RepD]
 ·simp[RepD]
 ·simp[RepD]
 ·simp[RepD]
 ·simp[RepD]
 ·cases h
def vL:List D->List Value->Bool
|[],[]=>true
|d::ds,v::vs=>Gw d v&&v.one1&&vL ds vs
|_,_=>false
def BP:∀{ds:List D} {vs:List Value},vL ds vs=true->vs.length=ds.length/\∀ph,RepL ph ds vs
|[],[],_=>⟨rfl,λ_=>by simp[RepL]⟩
|d::ds,v::vs,h=>by
 simp only[vL,aC]at h;obtain⟨h1,h2⟩:=BP h.2;refine⟨by simp[h1],λph=>?_⟩;simp only[RepL];exact⟨⟨h.1.2,QT h.1.1 ph⟩,h2 ph⟩
|[],_::_,h=>by simp[vL]at h
|_::_,[],h=>by simp[vL]at h
def gN:MX->Operand->Bool
|.t k,.tmp k'=>k==k'
|.k x,.const v=>Gw x v
|.k (.fn (.func f) []),.func f'=>f==f'
|.a xs,.const (.agg cs)=>vL xs cs.toList
|_,_=>false
def jF{x:MX}{o:Operand}(h:gN x o=true){ph:PH}{ρ:RM}{get:Nat->AV}{a:Act}(hg:∀k,o=.tmp k->RepV ph ρ (get k) (a.tmps.getD k undef)):
  RepV ph ρ (X get x) (a.eval o):=by
 unfold gN at h;split at h
 ·simp at h;subst h;exact hg _ rfl
 ·simp only[X,RepV,RepC,Act.eval];exact QT h ph
 ·simp at h;subst h;simp[X,RepV,RepC,RepD,RepL,Act.eval]
 ·rename_i xs cs;obtain⟨h1,h2⟩:=BP h;simp only[X,RepV,Act.eval];exact⟨cs.toList,by simp,by simpa using h1,gK.of_D (h2 ph)⟩
 ·cases h
def uW:List MX->List Operand->Bool
|[],[]=>true
|x::xs,o::os=>gN x o&&uW xs os
|_,_=>false
def Cx{ph:PH}{ρ:RM}{get:Nat->AV}{a:Act}:∀{xs:List MX} {os:List Operand},uW xs os=true->(∀k,Operand.tmp k∈os->RepV ph ρ (get k) (a.tmps.getD k undef))->
 zad ph ρ (xs.map (X get)) (os.map a.eval)
|[],[],_,_=>rfl
|x::xs,o::os,h,hg=>by
 simp only[uW,aC]at h;simp only[List.map_cons,zad];exact⟨jF h.1 (λk hk=>hg k (by simp[hk])),Cx h.2 (λk hk=>hg k (by simp[hk]))⟩
|[],_::_,h,_=>by simp[uW]at h
|_::_,[],h,_=>by simp[uW]at h
def D.one:D->Bool
|.any=>false
|.sc v=>v.one1
|_=>true
def AC.one:AC->Bool
|.d x=>x.one
|.op _=>false
|_=>true
def sZ:AV->Option (List AC)
|.c x=>if x.one then some [x]else none
|.ag cs=>some cs
|.tup _=>none
def jC:List AC->Option (List D)
|[]=>some []
|.d x::cs=>(jC cs).map (x:: ·)
|_::_=>none
@[simp] theorem QU(ds:List D):jC (ds.map .d)=some ds:=by
 induction ds with
 |nil=>rfl
 |cons d ds ih=>simp[jC,ih]
def AY:∀{cs:List AC} {ds:List D},jC cs=some ds->cs=ds.map .d
|[],ds,h=>by simp[jC]at h;simp[<-h]
|.d x::cs,ds,h=>by
 simp only[jC,aJ]at h;obtain⟨l,h1,h2⟩:=h;rw[<-h2,AY h1];rfl
|.ptr .. ::_,_,h=>by simp[jC]at h
|.ept .. ::_,_,h=>by simp[jC]at h
|.msl .. ::_,_,h=>by simp[jC]at h
|.map .. ::_,_,h=>by simp[jC]at h
|.fn .. ::_,_,h=>by simp[jC]at h
|.op .. ::_,_,h=>by simp[jC]at h
def cellsD(v:AV):Option (List D):=(sZ v).bind jC
def D.one_ok{h:PH}{x:D}{v:Value}(r:RepD h x v)(h1:x.one=true):v.one1=true:=by
 cases x<;>simp only[D.one]at h1
 case any=>cases h1
 case int=>simp only[RepD]at r;rw[r.1];rfl
 case bool=>simp only[RepD]at r;rw[r];rfl
 case str=>simp only[RepD]at r;rw[r.1];rfl
 case sc u=>simp only[RepD]at r;rw[r];exact h1
 case sl=>simp only[RepD]at r;obtain⟨a,cap,e,_⟩:=r;rw[e];rfl
 case rp=>simp only[RepD]at r;obtain⟨a,cap,e,_⟩:=r;rw[e];rfl
 case fn=>simp only[RepD]at r;obtain⟨a,e,_⟩:=r;rw[e];rfl
 case ifc=>simp only[RepD]at r;obtain⟨a,e,_⟩:=r;rw[e];rfl
 case mp=>simp only[RepD]at r;obtain⟨a,_,_,e,_⟩:=r;rw[e];rfl
def AC.one_ok{h:PH}{ρ:RM}{x:AC}{v:Value}(r:RepC h ρ x v)(h1:x.one=true):v.one1=true:=by
 cases x<;>simp only[AC.one]at h1
 case d=>simp only[RepC]at r;exact D.one_ok r h1
 case ptr=>simp only[RepC]at r;obtain⟨a,_,e⟩:=r;rw[e];rfl
 case ept=>simp only[RepC]at r;obtain⟨a,_,e⟩:=r;rw[e];rfl
 case msl=>simp only[RepC]at r;obtain⟨p,a,_,e,_⟩:=r;rw[e];rfl
 case map=>simp only[RepC]at r;obtain⟨a,_,e⟩:=r;rw[e];rfl
 case fn=>simp only[RepC]at r;obtain⟨a,e,_⟩:=r;rw[e];rfl
 case op=>cases h1
def zeA{v:Value}(h:v.one1=true):v.cells=#[v]:=by cases v<;>simp_all[Value.one1,Value.cells]
def gK.one{h:PH}{ρ:RM}:∀{cs:List AC} {vs:List Value},gK h ρ cs vs->vs.length=cs.length->∀v,v∈vs->v.one1=true
|[],[],_,_,v,hv=>by cases hv
|[],_::_,_,e,_,_=>by simp at e
|_::_,[],r,_,_,_=>by simp[gK]at r
|c::cs,u::vs,r,e,v,hv=>by
 simp only[gK]at r;cases aS.1 hv with
 |inl e1=>rw[e1];exact r.1.1
 |inr e1=>exact gK.one r.2 (by simpa using e) v e1
def Cy{h:PH}{ρ:RM}{v:AV}{x:Value}{cs:List AC}(r:RepV h ρ v x)(e:sZ v=some cs):∃vs:List Value,x.cells=vs.toArray/\vs.length=cs.length/\gK h ρ cs vs:=by
 cases v with
 | c y=>
  simp only[sZ]at e;split at e
  ·rename_i h1;cases e;simp only[RepV]at r;have hx:=AC.one_ok r h1;exact⟨[x],by rw[zeA hx],rfl,by simp[gK,hx,r]⟩
  ·cases e
 |ag ds=>
  simp only[sZ]at e;cases e;simp only[RepV]at r;obtain⟨vs,e1,e2,e3⟩:=r;exact⟨vs,by rw[e1];rfl,e2,e3⟩
 |tup _=>cases e
def KC{h:PH}{ρ:RM}{v:AV}{x:Value}{ds:List D}(r:RepV h ρ v x)(e:cellsD v=some ds):∃vs:List Value,x.cells=vs.toArray/\vs.length=ds.length/\RepL h ds vs:=by
 unfold cellsD at e;cases hc:sZ v with
 |none=>rw[hc]at e;cases e
 |some cs=>
  rw[hc]at e;obtain⟨vs,e1,e2,e3⟩:=Cy r hc;have:=AY e;subst this;exact⟨vs,e1,by simpa using e2,gK.to_D e3⟩
def xN:TypeDesc->Bool
|.struct _|.array _ _=>true
|_=>false
def yQ(P:Program)(T:TypeId):Option (Bool × Nat):=
 match P.underlying T,P.info? T with
 |some d,some i=>some (xN d,i.size)
 |_,_=>none
def QV{P:Program}{T:TypeId}{b:Bool}{n:Nat}(h:yQ P T=some (b,n)):∃d i,P.underlying T=some d/\P.info? T=some i/\xN d=b/\i.size=n:=by
 unfold yQ at h;split at h
 ·rename_i d i h1 h2;cases h;exact⟨d,i,h1,h2,rfl,rfl⟩
 ·cases h
def fe.isAgg{P:Program}{w:World}{T:TypeId}{d:TypeDesc}(h:P.underlying T=some d):fe P (isAgg T) w (xN d) w:=by
 unfold Go.isAgg;refine(eT h).bind ?_;cases d<;>exact dx _
abbrev fC:=@Same.refl
end Go.Abs
namespace Go.Abs
section
variable {P:Program} {w:World}
def zdQ (op:BinOp) (t:TypeId) (x y:Operand) (a b:Value) (h1:¬(a=.nilIface/\b=.nilIface)) (h2:∀c d,¬(a=.agg c/\b=.agg d)):fe P (eqGuard op t x y a b) w () w:=by
 cases op<;>first
   |exact dx ()
   |(cases a<;>first
       |exact dx ()
       |(cases b<;>first
           |exact dx ()
           |exact absurd ⟨rfl,rfl⟩ h1
           |exact absurd ⟨rfl,rfl⟩ (h2 _ _)))
def Cz(k:IntKind)(n:Int):k.min<=k.wrap n/\k.wrap n<=k.max:=by
 cases k<;>simp only[IntKind.wrap,IntKind.min,IntKind.max,IntKind.bits,IntKind.signed]<;>constructor<;>simp<;>(try split)<;>omega
def KD{k:IntKind}{n:Int}(h1:k.min<=n)(h2:n<=k.max):k.wrap n=n:=by
 cases k<;>simp only[IntKind.wrap,IntKind.min,IntKind.max,IntKind.bits,IntKind.signed]at* <;>simp at* <;>(try split)<;>omega
def DC(op:BinOp)(k:IntKind)(a b:Int):Option D:=
 match op with
 |.add=>some (.int k (k.wrap (a+b)))
 |.sub=>some (.int k (k.wrap (a-b)))
 |.mul=>some (.int k (k.wrap (a*b)))
 |.and=>some (.int k (k.wrap (BitVec.ofInt k.bits a&&&BitVec.ofInt k.bits b).toNat))
 |.or=>some (.int k (k.wrap (BitVec.ofInt k.bits a|||BitVec.ofInt k.bits b).toNat))
 |.xor=>some (.int k (k.wrap (BitVec.ofInt k.bits a^^^BitVec.ofInt k.bits b).toNat))
 |.andNot=>some (.int k (k.wrap (BitVec.ofInt k.bits a&&& ~~~(BitVec.ofInt k.bits b)).toNat))
 |.eql=>some (.bool (decide (a=b)))
 |.neq=>some (.bool (decide (¬a=b)))
 |.lss=>some (.bool (decide (a<b)))
 |.leq=>some (.bool (decide (a<=b)))
 |.gtr=>some (.bool (decide (b<a)))
 |.geq=>some (.bool (decide (b<=a)))
 |.shr=>if 0<=b/\k.min<=a.fdiv (2^min b.toNat k.bits)/\a.fdiv (2^min b.toNat k.bits)<=k.max then some (.int k (a.fdiv (2^min b.toNat k.bits)))else none
 |_=>none
def zf1{op:BinOp}{k:IntKind}{a b:Int}{d:D}(h:DC op k a b=some d)(T:TypeId)(ph:PH):∃v,fe P (binOp op T (.int k a) (.int k b)) w v w/\RepD ph d v:=by
 have key:∀(msg:String) (x:Sem Value),binOp op T (.int k a) (.int k b)=(if k≠k then stuck msg else x)->∀v,x=Pure.pure v->fe P (binOp op T (.int k a) (.int k b)) w v w:=by
   intro msg x hx v hv;rw[hx,aA (by simp),hv];exact dx _
 cases op <;>simp only[DC]at h<;>first
   |(cases h;done)
   | (split at h
      · rename_i hh;cases h;refine⟨.int k (a.fdiv (2^min b.toNat k.bits)),?_,?_⟩
        · show fe P (Op.shift .shr k a k b) w _ w;unfold Op.shift;rw[aA (by omega)];exact dx _
        · unfold RepD;exact⟨rfl,hh.2⟩
      · cases h)
   | (cases h
      refine⟨_,key _ _ rfl _ rfl,?_⟩;unfold RepD
      exact⟨rfl,Cz _ _⟩)
   | (cases h
      refine⟨_,key _ _ rfl _ rfl,?_⟩;unfold RepD;refine bu Value.bool ?_;rw[Bool.eq_iff_iff]
      try simp)
def zfQ {op:BinOp} {k:IntKind} {a b:Int} (hop:op=.quo\/op=.rem) (hb:b≠0) (ha:k.min<=a/\a<=k.max) (hb':k.min<=b/\b<=k.max) (T:TypeId) (ph:PH):
   ∃v,fe P (binOp op T (.int k a) (.int k b)) w v w/\RepD ph (.int k (if op=.quo then k.wrap (a.tdiv b)else a.tmod b)) v:=by
 have key:∀(msg:String) (x:Sem Value),binOp op T (.int k a) (.int k b)=(if k≠k then stuck msg else x)->∀v,fe P x w v w->fe P (binOp op T (.int k a) (.int k b)) w v w:=by
   intro msg x hx v hv;rw[hx,aA (by simp)];exact hv
 rcases hop with rfl|rfl
 · refine⟨_,key _ _ rfl _ (by unfold Op.intDiv;rw[aA hb];exact dx _),?_⟩;rw[aB rfl];unfold RepD;exact⟨rfl,Cz _ _⟩
 · refine⟨_,key _ _ rfl _ (by unfold Op.intDiv;rw[aA hb];exact dx _),?_⟩;rw[aA (by decide)];unfold RepD;refine⟨rfl,?_,?_⟩
   · by_cases h0:0<=a
     · have:=dR b h0;have hm:k.min<=0:=by cases k<;>decide
       omega
     · have h1:(-a).tmod b= -(a.tmod b):=Int.neg_tmod ..;have h2:=dR (a:= -a) b (by omega);have h3:(-a).tmod b<= -a:=by
         have e:((-a).toNat:Int)= -a:=by omega
         have:=Int.natAbs_tmod (-a) b;have h4:((-a).tmod b).natAbs<=(-a).natAbs:=by rw[this];exact Nat.mod_le _ _
         omega
       omega
   · by_cases h0:0<=a
     · have h2:=dR b h0;have:=Int.natAbs_tmod a b;have h4:(a.tmod b).natAbs<=a.natAbs:=by rw[this];exact Nat.mod_le _ _
       omega
     · have h1:(-a).tmod b= -(a.tmod b):=Int.neg_tmod ..;have h2:=dR (a:= -a) b (by omega);have hm:0<=k.max:=by cases k<;>decide
       omega
def zdb{k:IntKind}{a:Int}(n:Nat)(h1:k.min<=a)(h2:a<=k.max):k.min<=a.fdiv (2^n)/\a.fdiv (2^n)<=k.max:=by
 have hp:(0:Int)<2^n:=Int.pow_pos (by decide);have hm:k.min<=0:=by cases k<;>decide
 have hM:0<=k.max:=by cases k<;>decide
 rw[Int.fdiv_eq_ediv_of_nonneg a (Int.le_of_lt hp)];by_cases h0:0<=a
 · have q1:=Int.ediv_nonneg h0 (Int.le_of_lt hp);have q2:=Int.ediv_le_self (2^n) h0;omega
 · have q1:a/2^n<0:=Int.ediv_neg_of_neg_of_pos (by omega) hp;have q2:a<=a/2^n:=by
     rw[Int.le_ediv_iff_mul_le hp];have:(1:Int)<=2^n:=hp;have:=Int.mul_le_mul_of_nonpos_left (show a<=0 by omega) this;omega
   omega
def zf2{op:BinOp}{k k':IntKind}{a b:Int}(hop:op=.shl\/op=.shr)(hb:0<=b)(ha:k.min<=a/\a<=k.max)(T:TypeId)(ph:PH):
   ∃v,fe P (binOp op T (.int k a) (.int k' b)) w v w/\RepD ph (.int k (if op=.shl then k.wrap (a*2^min b.toNat k.bits)else a.fdiv (2^min b.toNat k.bits))) v:=by
 rcases hop with rfl|rfl
 · refine⟨.int k (k.wrap (a*2^min b.toNat k.bits)),?_,?_⟩
   · show fe P (Op.shift .shl k a k' b) w _ w;unfold Op.shift;rw[aA (by omega)];exact dx _
   · rw[aB rfl];unfold RepD;exact⟨rfl,Cz _ _⟩
 · refine⟨.int k (a.fdiv (2^min b.toNat k.bits)),?_,?_⟩
   · show fe P (Op.shift .shr k a k' b) w _ w;unfold Op.shift;rw[aA (by omega)];exact dx _
   · rw[aA (by decide)];unfold RepD;exact⟨rfl,zdb _ ha.1 ha.2⟩
def toList_inj(a b:di):(a.toList==b.toList)=decide (a=b):=by
 rw[Bool.eq_iff_iff];simp only[aV,aI];constructor
 · intro h;rw[ByteArray.toList_eq,ByteArray.toList_eq]at h;exact Go.WideShapes.bytes_inj h
 · intro h;rw[h]
def DD(op:BinOp)(a b:di):Option D:=
 match op with
 |.eql=>some (.bool (decide (a=b)))
 |.neq=>some (.bool (!decide (a=b)))
 |.lss=>some (.bool (Op.bytesLess a.data.toList b.data.toList))
 |.leq=>some (.bool (Op.bytesLess a.data.toList b.data.toList||decide (a=b)))
 |.gtr=>some (.bool (!(Op.bytesLess a.data.toList b.data.toList||decide (a=b))))
 |.geq=>some (.bool (!Op.bytesLess a.data.toList b.data.toList))
 |_=>none
def zf3{op:BinOp}{a b:di}{d:D}(h:DD op a b=some d)(T:TypeId)(ph:PH):∃v,fe P (binOp op T (.string a) (.string b)) w v w/\RepD ph d v:=by
 have key:binOp op T (.string a) (.string b)=Op.stringOp op a b:=by cases op<;>rfl
 rw[key];unfold Op.stringOp;rw[toList_inj,ByteArray.toList_eq,ByteArray.toList_eq]
 cases op<;>simp only[DD]at h<;>first
   |(cases h;done)
   |(cases h;exact⟨_,dx _,rfl⟩)
def uX{a b:di}(h:a.size+b.size<=zao)(T:TypeId)(ph:PH):∃v,fe P (binOp .add T (.string a) (.string b)) w v w/\RepD ph (.str (a++b)) v:=by
 refine⟨.string (a++b),?_,?_⟩
 · show fe P (Op.stringOp .add a b) w _ w;unfold Op.stringOp;simp only;rw[aA]
   · exact dx _
   · unfold zao at h;have:IntKind.i64.max=9223372036854775807:=by decide
     rw[this];simp only[gt_iff_lt,Int.not_lt];omega
 · unfold RepD;exact⟨rfl,by rw[aY];exact h⟩
def DF(op:BinOp)(a b:Bool):Option D:=
 match op with
 |.eql=>some (.bool (a==b))
 |.neq=>some (.bool (!(a==b)))
 |_=>none
def zf5{op:BinOp}{a b:Bool}{d:D}(h:DF op a b=some d){T:TypeId}(hT:P.underlying T=some .bool)(ph:PH):∃v,fe P (binOp op T (.bool a) (.bool b)) w v w/\RepD ph d v:=by
 have eq:fe P (Op.equal T (.bool a) (.bool b)) w (a==b) w:=by
   unfold Op.equal Op.maxDepth Op.equalIn;refine(eT hT).bind ?_;exact dx _
 cases op<;>simp only[DF]at h<;>first
   |(cases h;done)
   |(cases h;exact⟨_,eq.bind (dx _),rfl⟩)
end
end Go.Abs
namespace Go.Abs
mutual
def AC.ren(f:Nat->Nat):AC->AC
|.d x=>.d x
|.ptr b off=>.ptr (f b) off
|.ept s b i off=>.ept s (f b) i off
|.msl s b off len=>.msl s (f b) off len
|.map b=>.map (f b)
|.fn g caps=>.fn g (AC.rens f caps)
|.op r=>.op r
def AC.rens(f:Nat->Nat):List AC->List AC
|[]=>[]
|c::cs=>c.ren f::AC.rens f cs
end
mutual
def AC.lt(n:Nat):AC->Bool
|.d _=>true
|.ptr b _=>decide (b<n)
|.ept _ b _ _=>decide (b<n)
|.msl _ b _ _=>decide (b<n)
|.map b=>decide (b<n)
|.fn _ caps=>AC.lts n caps
|.op _=>true
def AC.lts(n:Nat):List AC->Bool
|[]=>true
|c::cs=>c.lt n&&AC.lts n cs
end
mutual
def AV.ren(f:Nat->Nat):AV->AV
|.c x=>.c (x.ren f)
|.ag cs=>.ag (AC.rens f cs)
|.tup vs=>.tup (AV.rens f vs)
def AV.rens(f:Nat->Nat):List AV->List AV
|[]=>[]
|v::vs=>v.ren f::AV.rens f vs
end
mutual
def AV.lt(n:Nat):AV->Bool
|.c x=>x.lt n
|.ag cs=>AC.lts n cs
|.tup vs=>AV.lts n vs
def AV.lts(n:Nat):List AV->Bool
|[]=>true
|v::vs=>v.lt n&&AV.lts n vs
end
def Blk.ren(f:Nat->Nat):Blk->Blk
|.non=>.non
|.dead=>.dead
|.box cs=>.box (AC.rens f cs)
|.arr s es=>.arr s (es.map (AC.rens f))
|.map es=>.map (es.map λe=>(e.1,e.2.ren f))
|.pin t b=>.pin t (f b)
def Blk.lt(n:Nat):Blk->Bool
|.non=>true
|.dead=>true
|.box cs=>AC.lts n cs
|.arr _ es=>es.all (AC.lts n)
|.map es=>es.all λe=>e.2.lt n
|.pin _ b=>decide (b<n)
@[simp] theorem AC.rens_D(f:Nat->Nat)(ds:List D):AC.rens f (ds.map .d)=ds.map .d:=by
 induction ds with
 |nil=>rfl
 |cons d ds ih=>simp[AC.rens,AC.ren,ih]
@[simp] theorem AC.lts_D(n:Nat)(ds:List D):AC.lts n (ds.map .d)=true:=by
 induction ds with
 |nil=>rfl
 |cons d ds ih=>simp[AC.lts,AC.lt,ih]
def nz(f:Nat->Nat)(n:Nat)(ρ:RM):RM:=λb=>if b<n then ρ (f b)else none
def ET{f:Nat->Nat}{n:Nat}{ρ:RM}{b:Nat}{p:Nat × Nat}(hb:b<n)(h:ρ (f b)=some p):nz f n ρ b=some p:=by
 unfold nz;rw[aB hb];exact h
section
variable {h:PH} {ρ:RM} {f:Nat->Nat} {n:Nat}
mutual
def RepC.ren:∀(x:AC) (v:Value),x.lt n=true->RepC h ρ (x.ren f) v->RepC h (nz f n ρ) x v
|.d x,v,_,r=>by simpa only[AC.ren,RepC]using r
|.ptr b off,v,hl,r=>by
 simp only[AC.lt,aI]at hl;simp only[AC.ren,RepC]at r⊢;obtain⟨p,h1,h2⟩:=r;exact⟨p,ET hl h1,h2⟩
|.ept s b i off,v,hl,r=>by
 simp only[AC.lt,aI]at hl;simp only[AC.ren,RepC]at r⊢;obtain⟨p,h1,h2⟩:=r;exact⟨p,ET hl h1,h2⟩
|.msl s b off len,v,hl,r=>by
 simp only[AC.lt,aI]at hl;simp only[AC.ren,RepC]at r⊢;obtain⟨p,a,h1,h2⟩:=r;exact⟨p,a,ET hl h1,h2⟩
|.map b,v,hl,r=>by
 simp only[AC.lt,aI]at hl;simp only[AC.ren,RepC]at r⊢;obtain⟨p,h1,h2⟩:=r;exact⟨p,ET hl h1,h2⟩
| .fn g caps,v,hl,r=>by
 simp only[AC.lt]at hl;simp only[AC.ren,RepC]at r⊢;obtain⟨vs,h1,h2,h3⟩:=r;have e:(AC.rens f caps).length=caps.length:=by
  have:∀(cs:List AC),(AC.rens f cs).length=cs.length:=by
   intro cs;induction cs with
   |nil=>rfl
   |cons c cs ih=>simp[AC.rens,ih]
  exact this caps
 exact⟨vs,h1,by rw[h2,e],gK.ren caps vs hl h3⟩
|.op q,v,_,r=>by simpa only[AC.ren,RepC]using r
def gK.ren:∀(cs:List AC) (vs:List Value),AC.lts n cs=true->gK h ρ (AC.rens f cs) vs->gK h (nz f n ρ) cs vs
|[],_,_,_=>by simp[gK]
|_::_,[],_,r=>by simp[AC.rens,gK]at r
|c::cs,v::vs,hl,r=>by
 simp only[AC.lts,aC]at hl;simp only[AC.rens,gK]at r⊢;exact⟨⟨r.1.1,RepC.ren c v hl.1 r.1.2⟩,gK.ren cs vs hl.2 r.2⟩
end
def AC.rens_length(cs:List AC):(AC.rens f cs).length=cs.length:=by
 induction cs with
 |nil=>rfl
 |cons c cs ih=>simp[AC.rens,ih]
mutual
def RepV.ren:∀(x:AV) (v:Value),x.lt n=true->RepV h ρ (x.ren f) v->RepV h (nz f n ρ) x v
|.c x,v,hl,r=>by
 simp only[AV.lt]at hl;simp only[AV.ren,RepV]at r⊢;exact RepC.ren x v hl r
|.ag cs,v,hl,r=>by
 simp only[AV.lt]at hl;simp only[AV.ren,RepV]at r⊢;obtain⟨vs,h1,h2,h3⟩:=r;exact⟨vs,h1,by rw[h2,AC.rens_length],gK.ren cs vs hl h3⟩
|.tup xs,v,hl,r=>by
 simp only[AV.lt]at hl;simp only[AV.ren,RepV]at r⊢;obtain⟨vs,h1,h2⟩:=r;exact⟨vs,h1,zad.ren xs vs hl h2⟩
def zad.ren:∀(xs:List AV) (vs:List Value),AV.lts n xs=true->zad h ρ (AV.rens f xs) vs->zad h (nz f n ρ) xs vs
|[],vs,_,r=>by simpa[AV.rens,zad]using r
|_::_,[],_,r=>by simp[AV.rens,zad]at r
|x::xs,v::vs,hl,r=>by
 simp only[AV.lts,aC]at hl;simp only[AV.rens,zad]at r⊢;exact⟨RepV.ren x v hl.1 r.1,zad.ren xs vs hl.2 r.2⟩
end
def gp.ren{s:Nat}:∀(es:List (List AC)) (vs:List Value),es.all (AC.lts n)=true->gp h ρ s (es.map (AC.rens f)) vs->gp h (nz f n ρ) s es vs
|[],_,_,_=>by simp[gp]
|e::es,vs,hl,r=>by
 simp only[List.all_cons,aC]at hl;simp only[List.map_cons,gp,AC.rens_length]at r⊢;exact⟨r.1,gK.ren e vs hl.1 r.2.1,gp.ren es _ hl.2 r.2.2⟩
def RepM.ren:∀(es:List (D × AV)) (ms:List MapEntry),(es.all λe=>e.2.lt n)=true->RepM h ρ (es.map λe=>(e.1,e.2.ren f)) ms->RepM h (nz f n ρ) es ms
|[],ms,_,r=>by simpa[RepM]using r
|_::_,[],_,r=>by simp[RepM]at r
|e::es,x::ms,hl,r=>by
 simp only[List.all_cons,aC]at hl;simp only[List.map_cons,RepM]at r⊢;exact⟨⟨r.1.1,RepV.ren _ _ hl.1 r.1.2⟩,RepM.ren es ms hl.2 r.2⟩
def zaj.ren{p:Nat × Nat}{blk:Blk}{w:Heap}(hl:blk.lt n=true)(r:zaj h ρ p (blk.ren f) w):zaj h (nz f n ρ) p blk w:=by
 cases blk with
 |non=>trivial
 |dead=>trivial
 |box cs=>
  obtain⟨vs,T,h1,h2,h3⟩:=r;exact⟨vs,T,h1,by rw[h2,AC.rens_length],gK.ren cs vs hl h3⟩
 |arr s es=>
  rcases r with⟨h1,h2⟩|⟨vs,T,h1,h2,h3,h4,h5⟩
  ·exact .inl ⟨h1,by simpa using h2⟩
  ·exact .inr ⟨vs,T,h1,h2,by simpa using h3,by simpa using h4,gp.ren es vs hl h5⟩
 |map es=>
  obtain⟨ms,ck,h1,h2,h3,h4⟩:=r;exact⟨ms,ck,h1,RepM.ren es ms hl h2,h3,h4⟩
 |pin t b=>
  simp only[Blk.lt,aI]at hl;exact⟨r.1,ET hl r.2⟩
end
def Real.ren{f:Nat->Nat}{blk:Blk}{p:Nat × Nat}:Real (blk.ren f) p↔Real blk p:=by cases blk<;>simp[Blk.ren,Real]
def hpOf(bs:List Blk):Hp:=λb=>bs.getD b .non
def gm(l:List Nat):Nat->Nat:=λb=>l.getD b 0
mutual
def AC.lv(p:Nat->Bool):AC->Bool
|.d _=>true
|.ptr b _=>p b
|.ept _ b _ _=>p b
|.msl _ b _ _=>p b
|.map b=>p b
|.fn _ caps=>AC.lvs p caps
|.op _=>true
def AC.lvs(p:Nat->Bool):List AC->Bool
|[]=>true
|c::cs=>c.lv p&&AC.lvs p cs
end
mutual
def AV.lv(p:Nat->Bool):AV->Bool
|.c x=>x.lv p
|.ag cs=>AC.lvs p cs
|.tup vs=>AV.lvs p vs
def AV.lvs(p:Nat->Bool):List AV->Bool
|[]=>true
|v::vs=>v.lv p&&AV.lvs p vs
end
def Blk.lv(p:Nat->Bool):Blk->Bool
|.non=>true
|.dead=>true
|.box cs=>AC.lvs p cs
|.arr _ es=>es.all (AC.lvs p)
|.map es=>es.all λe=>e.2.lv p
|.pin _ b=>p b
def AC.lvs_D(p:Nat->Bool)(ds:List D):AC.lvs p (ds.map .d)=true:=by
 induction ds with
 |nil=>rfl
 |cons d ds ih=>simp[AC.lvs,AC.lv,ih]
section
variable {h:PH} {ρ ρ2:RM} {f f2:Nat->Nat} {p:Nat->Bool}
def AC.rens_len(f:Nat->Nat)(cs:List AC):(AC.rens f cs).length=cs.length:=by
 induction cs with
 |nil=>rfl
 |cons c cs ih=>simp[AC.rens,ih]
mutual
def RepC.mv(H:∀b q,p b=true->ρ (f b)=some q->ρ2 (f2 b)=some q):∀(x:AC) (v:Value),x.lv p=true->RepC h ρ (x.ren f) v->RepC h ρ2 (x.ren f2) v
|.d x,v,_,r=>by simpa only[AC.ren,RepC]using r
|.ptr b off,v,hl,r=>by
 simp only[AC.lv]at hl;simp only[AC.ren,RepC]at r⊢;obtain⟨q,h1,h2⟩:=r;exact⟨q,H b q hl h1,h2⟩
|.ept s b i off,v,hl,r=>by
 simp only[AC.lv]at hl;simp only[AC.ren,RepC]at r⊢;obtain⟨q,h1,h2⟩:=r;exact⟨q,H b q hl h1,h2⟩
|.msl s b off len,v,hl,r=>by
 simp only[AC.lv]at hl;simp only[AC.ren,RepC]at r⊢;obtain⟨q,a,h1,h2⟩:=r;exact⟨q,a,H b q hl h1,h2⟩
|.map b,v,hl,r=>by
 simp only[AC.lv]at hl;simp only[AC.ren,RepC]at r⊢;obtain⟨q,h1,h2⟩:=r;exact⟨q,H b q hl h1,h2⟩
|.fn g caps,v,hl,r=>by
 simp only[AC.lv]at hl;simp only[AC.ren,RepC]at r⊢;obtain⟨vs,h1,h2,h3⟩:=r;exact⟨vs,h1,by rw[h2,AC.rens_len,AC.rens_len],gK.mv H caps vs hl h3⟩
|.op q,v,_,r=>by simpa only[AC.ren,RepC]using r
def gK.mv(H:∀b q,p b=true->ρ (f b)=some q->ρ2 (f2 b)=some q):∀(cs:List AC) (vs:List Value),AC.lvs p cs=true->gK h ρ (AC.rens f cs) vs->gK h ρ2 (AC.rens f2 cs) vs
|[],_,_,_=>by simp[AC.rens,gK]
|_::_,[],_,r=>by simp[AC.rens,gK]at r
|c::cs,v::vs,hl,r=>by
 simp only[AC.lvs,aC]at hl;simp only[AC.rens,gK]at r⊢;exact⟨⟨r.1.1,RepC.mv H c v hl.1 r.1.2⟩,gK.mv H cs vs hl.2 r.2⟩
end
mutual
def RepV.mv(H:∀b q,p b=true->ρ (f b)=some q->ρ2 (f2 b)=some q):∀(x:AV) (v:Value),x.lv p=true->RepV h ρ (x.ren f) v->RepV h ρ2 (x.ren f2) v
|.c x,v,hl,r=>by
 simp only[AV.lv]at hl;simp only[AV.ren,RepV]at r⊢;exact RepC.mv H x v hl r
|.ag cs,v,hl,r=>by
 simp only[AV.lv]at hl;simp only[AV.ren,RepV]at r⊢;obtain⟨vs,h1,h2,h3⟩:=r;exact⟨vs,h1,by rw[h2,AC.rens_len,AC.rens_len],gK.mv H cs vs hl h3⟩
|.tup xs,v,hl,r=>by
 simp only[AV.lv]at hl;simp only[AV.ren,RepV]at r⊢;obtain⟨vs,h1,h2⟩:=r;exact⟨vs,h1,zad.mv H xs vs hl h2⟩
def zad.mv(H:∀b q,p b=true->ρ (f b)=some q->ρ2 (f2 b)=some q):∀(xs:List AV) (vs:List Value),AV.lvs p xs=true->zad h ρ (AV.rens f xs) vs->zad h ρ2 (AV.rens f2 xs) vs
|[],vs,_,r=>by simpa[AV.rens,zad]using r
|_::_,[],_,r=>by simp[AV.rens,zad]at r
|x::xs,v::vs,hl,r=>by
 simp only[AV.lvs,aC]at hl;simp only[AV.rens,zad]at r⊢;exact⟨RepV.mv H x v hl.1 r.1,zad.mv H xs vs hl.2 r.2⟩
end
def gp.mv(H:∀b q,p b=true->ρ (f b)=some q->ρ2 (f2 b)=some q){s:Nat}:∀(es:List (List AC)) (vs:List Value),es.all (AC.lvs p)=true->gp h ρ s (es.map (AC.rens f)) vs->gp h ρ2 s (es.map (AC.rens f2)) vs
|[],_,_,_=>by simp[gp]
|e::es,vs,hl,r=>by
 simp only[List.all_cons,aC]at hl;simp only[List.map_cons,gp,AC.rens_len]at r⊢;exact⟨r.1,gK.mv H e vs hl.1 r.2.1,gp.mv H es _ hl.2 r.2.2⟩
def RepM.mv(H:∀b q,p b=true->ρ (f b)=some q->ρ2 (f2 b)=some q):∀(es:List (D × AV)) (ms:List MapEntry),(es.all λe=>e.2.lv p)=true->RepM h ρ (es.map λe=>(e.1,e.2.ren f)) ms->RepM h ρ2 (es.map λe=>(e.1,e.2.ren f2)) ms
|[],ms,_,r=>by simpa[RepM]using r
|_::_,[],_,r=>by simp[RepM]at r
|e::es,x::ms,hl,r=>by
 simp only[List.all_cons,aC]at hl;simp only[List.map_cons,RepM]at r⊢;exact⟨⟨r.1.1,RepV.mv H _ _ hl.1 r.1.2⟩,RepM.mv H es ms hl.2 r.2⟩
def zaj.mv(H:∀b q,p b=true->ρ (f b)=some q->ρ2 (f2 b)=some q){q:Nat × Nat}{blk:Blk}{w:Heap}(hl:blk.lv p=true)(r:zaj h ρ q (blk.ren f) w):zaj h ρ2 q (blk.ren f2) w:=by
 cases blk with
 |non=>trivial
 |dead=>trivial
 |box cs=>
  obtain⟨vs,T,h1,h2,h3⟩:=r;exact⟨vs,T,h1,by rw[h2,AC.rens_len,AC.rens_len],gK.mv H cs vs hl h3⟩
 |arr s es=>
  rcases r with⟨h1,h2⟩|⟨vs,T,h1,h2,h3,h4,h5⟩
  ·exact .inl ⟨h1,by simpa using h2⟩
  ·exact .inr ⟨vs,T,h1,h2,by simpa using h3,by simpa using h4,gp.mv H es vs hl h5⟩
 |map es=>
  obtain⟨ms,ck,h1,h2,h3,h4⟩:=r;exact⟨ms,ck,h1,RepM.mv H es ms hl h2,h3,h4⟩
 |pin t b=>exact⟨r.1,H b t hl r.2⟩
end
mutual
def AC.ren_id:∀x:AC,x.ren id=x
|.d _=>rfl
|.ptr _ _=>rfl
|.ept _ _ _ _=>rfl
|.msl _ _ _ _=>rfl
|.map _=>rfl
|.fn g caps=>by simp[AC.ren,AC.rens_id caps]
|.op _=>rfl
def AC.rens_id:∀x:List AC,AC.rens id x=x
|[]=>rfl
|c::cs=>by simp[AC.rens,AC.ren_id c,AC.rens_id cs]
end
mutual
def AV.ren_id:∀x:AV,x.ren id=x
|.c x=>by simp[AV.ren,AC.ren_id]
|.ag cs=>by simp[AV.ren,AC.rens_id]
|.tup vs=>by simp[AV.ren,AV.rens_id vs]
def AV.rens_id:∀x:List AV,AV.rens id x=x
|[]=>rfl
|x::xs=>by simp[AV.rens,AV.ren_id x,AV.rens_id xs]
end
def Blk.ren_id(x:Blk):x.ren id=x:=by
 cases x with
 |non=>rfl
 |dead=>rfl
 |box cs=>simp[Blk.ren,AC.rens_id]
 |arr s es=>
  have:(AC.rens id)=id:=funext λx=>AC.rens_id x;simp[Blk.ren,this]
 |map es=>
  have:(λe:D × AV=>(e.1,e.2.ren id))=id:=funext λx=>by simp[AV.ren_id]
  simp[Blk.ren,this]
 |pin t b=>rfl
def gT:Nat->Nat->List Nat
|_,0=>[]
|n,d+1=>n::gT (n+1) d
def uJ(m:Hp):Nat->Nat->Prop
|_,0=>True
|n,d+1=>m n=.non/\uJ m (n+1) d
def ni(f:Nat->Nat):List Nat->List Blk->List (Nat × Blk)
|j::js,b::bs=>(j,b.ren f)::ni f js bs
|_,_=>[]
def oN(m:Hp)(f:Nat->Nat):List Nat->List Blk->Prop
|[],[]=>True
|j::js,b::bs=>m j=b.ren f/\oN m f js bs
|_,_=>False
def live(bs:List Blk)(b:Nat):Bool:=match bs[b]? with
|some .dead|some .non|none=>false
|some _=>true
end Go.Abs
