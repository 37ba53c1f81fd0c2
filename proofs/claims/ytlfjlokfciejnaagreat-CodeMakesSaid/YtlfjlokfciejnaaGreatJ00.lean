/- Of ours. -/
import Derived.Orders
import GoSem.Dispatch
import Derived.Lib.Bytealg
import Derived.WideShapes
set_option maxRecDepth 20000
set_option maxHeartbeats 4000000
set_option linter.unusedVariables false
set_option linter.unusedSectionVars false
set_option linter.unusedSimpArgs false
set_option linter.defProp false
open List renaming length->lN
open Bool renaming true->tT,false->oK
open Option renaming some->sS,none->nN
namespace Go
abbrev qD:=List TypeId
abbrev qA:=List (Nat × Operand)
abbrev sw:=List Bool
abbrev si:=List Oper
abbrev sU:=List MapEntry
abbrev sD:=List (List UInt8)
abbrev o9:=List UInt8
abbrev o6:=List (Nat × Nat)
abbrev oW:=List Int
abbrev oO:=List Nat
theorem oM{p:Prop}(h:p:=by omega):p:=h
theorem oC{p:Prop}(h:p:=by simp):p:=h
theorem oD{p:Prop}(h:p:=by decide):p:=h
theorem qM{p:Prop}(h:p:=by simp only;omega):p:=h
theorem oF{a:Sort _}{b c:a}(h:b=c:=by exact rfl):b=c:=h
theorem oG{p q:Prop}(h:q)(k:p:=by decide):p/\q:=⟨k,h⟩
theorem jV{p q:Prop}(h:q)(k:p:=by omega):p/\q:=⟨k,h⟩
theorem uM{p q:Prop}(h:p)(k:p->q:=by intro h;simpa using h):q:=k h
theorem oI{p q:Prop}(h:p)(k:p->q:=by intro h;simp at h;omega):q:=k h
theorem oJ{a:Sort _}(b:a):∃c,b=c:=⟨b,rfl⟩
abbrev aA:=@List.getElem?_eq_getElem
abbrev aB:=@if_neg
abbrev aC:=@if_pos
abbrev aD:=@List.take_of_length_le
abbrev aF:=@List.drop_eq_getElem_cons
abbrev aG:=@Bool.and_eq_true
abbrev aH:=@List.getD_eq_getElem?_getD
abbrev aI:=@decide_eq_true_eq
abbrev aJ:=@Nat.le_refl
abbrev aK:=@List.mem_singleton
abbrev aL:=@List.mem_append
abbrev aM:=@List.mem_cons
abbrev aN:=@List.take_succ_eq_append_getElem
abbrev aO:=@List.getElem_mem
abbrev aP:=@Option.map_eq_some_iff
abbrev aQ:=@Eq.refl
abbrev aR:=@List.getElem?_eq_none
abbrev aS:=@List.drop_length
abbrev aT:=@Bool.not_eq_true
abbrev aU:=@Option.some.injEq
abbrev aV:=@List.length_append
abbrev aW:=@List.length_eq_zero_iff
abbrev aX:=@Nat.le_trans
abbrev aY:=@Nat.lt_or_ge
abbrev aZ:=@Array.getD_eq_getD_getElem?
abbrev aa:=@List.length_map
abbrev ae:=@beq_iff_eq
abbrev af:=@List.mem_map
abbrev ah:=@List.mem_of_getElem?
abbrev ai:=@List.all_eq_true
abbrev aj:=@List.getElem?_append_left
abbrev ak:=@List.pairwise_cons
abbrev au:=@Prod.mk.injEq
abbrev ax:=@ByteArray.size_append
abbrev ay:=@List.getElem?_append_right
abbrev bB:=@Bool.not_eq_true'
abbrev bC:=@Int.toNat_natCast
abbrev bD:=@Bool.false_eq_true
abbrev bE:=@List.getElem?_drop
abbrev bF:=@Nat.add_mul
abbrev bG:=@Array.toArray_toList
abbrev bH:=@Classical.byContradiction
abbrev bI:=@Array.getElem?_eq_none
abbrev bJ:=@List.take_length
abbrev bK:=@List.nodup_append
abbrev bL:=@decide_eq_false
abbrev bM:=@Array.getElem?_eq_getElem
abbrev bN:=@Option.isSome_iff_exists
abbrev bP:=@List.mem_filter
abbrev bQ:=@decide_eq_false_iff_not
abbrev bR:=@List.drop_of_length_le
abbrev bS:=@decide_eq_true
abbrev bU:=@Array.getElem?_setIfInBounds_ne
abbrev bV:=@List.drop_append_of_le_length
abbrev bW:=@Nat.zero_mul
abbrev bX:=@List.drop_drop
abbrev bY:=@List.mem_append_left
abbrev bZ:=@Array.getElem?_replicate
abbrev bf:=@List.mem_append_right
abbrev bg:=@List.getElem_of_mem
abbrev bi:=@List.append_nil
abbrev bn:=@List.pairwise_append
abbrev bu:=@Option.some.inj
abbrev bv:=@List.not_mem_nil
abbrev bz:=@List.length_take
abbrev cB:=@Nat.lt_of_lt_of_le
abbrev cO:=@Nat.add_sub_cancel_left
abbrev cZ:=@Nat.mul_le_mul_right
abbrev cu:=@Nat.one_mul
abbrev cz:=@Bool.or_eq_true
abbrev dA:=@List.take_append_drop
abbrev dC:=@List.append_assoc
abbrev dD:=@List.range_eq_range'
abbrev dE:=@List.getD_cons_zero
abbrev dF:=@List.ext_getElem?
abbrev dH:=@List.mem_of_mem_take
abbrev dI:=@List.getD_cons_succ
abbrev dJ:=@Array.getElem?_setIfInBounds_self
abbrev dK:=@Array.mapM_eq_mapM_toList
abbrev dL:=@List.pairwise_iff_getElem
abbrev dM:=@congrArg
abbrev dN:=@List.length_drop
abbrev dO:=@List.map_append
abbrev dP:=@List.map_map
abbrev dQ:=@List.range'_succ
abbrev dR:=@Option.bind_eq_some_iff
abbrev dS:=@List.length_filter_le
abbrev dU:=@Nat.add_comm
abbrev dV:=@Array.ext'
abbrev dW:=@Nat.sub_zero
abbrev dX:=@List.contains_iff_mem
abbrev dY:=@List.nodup_cons
abbrev dZ:=@List.mem_or_eq_of_mem_set
abbrev d9:=@not_or
abbrev df:=@or_false
abbrev dh:=@Bool.eq_iff_iff
abbrev di:=@List.mem_of_mem_drop
abbrev dm:=@UInt8.toNat_inj
abbrev dx:=@List.forall_mem_cons
abbrev dz:=@Array.empty_append
abbrev eB:=@List.getElem?_take
abbrev eF:=@Nat.zero_le
abbrev eG:=@List.drop_eq_nil_of_le
abbrev eH:=@List.filter_eq_nil_iff
abbrev eO:=@List.cons_lt_cons_iff
abbrev eP:=@Nat.le_add_right
abbrev eQ:=@List.cons.injEq
abbrev eT:=@List.mem_cons_of_mem
abbrev eU:=@Int.tmod_nonneg
abbrev eY:=@Array.length_toList
abbrev eZ:=@List.any_eq_false
abbrev fA:=@Nat.min_self
abbrev fB:=@List.filter_cons
abbrev fC:=@List.drop_zero
abbrev fD:=ByteArray
abbrev sG:=List (fD × Int)
abbrev ow:=List (fD × fD)
abbrev oN:=List fD
def Value.one1:Value->Bool
|.agg _|.tuple _=>oK
|_=>tT
abbrev oP:=List Value
end Go
namespace Go.Abs
abbrev PH:=Nat->Option Obj
abbrev RM:=Nat->Option (Nat × Nat)
inductive D where
|any
|int (k:IntKind) (n:Int)
|bool (b:Bool)
|str (s:fD)
|sc (v:Value)
|sl (x:Bool) (s:Nat) (es:List (List D))
|rp (cs:List D) (off:Nat)
|fn (f:Fn) (k_:List D)
|ifc (t:TypeId) (ag:Bool) (cs:List D)
|mp (ks vs:List D)
abbrev o5:=List (List D)
abbrev oQ:=List D
inductive DV where
|one (x:D)
|agg (cs:List D)
|a? (vs:List DV)
abbrev sQ:=List DV
inductive AC where
|d (x:D)
|ptr (b off:Nat)
|ept (s b i off:Nat)
|x_ (s b off len:Nat)
|map (b:Nat)
|fn (f:Fn) (k_:List AC)
|op (r:Value->Prop)
abbrev oh:=List (List AC)
abbrev o7:=List AC
inductive AV where
|c (x:AC)
|ag (cs:List AC)
|a? (vs:List AV)
abbrev oz:=List (D × AV)
abbrev oo:=List AV
abbrev oZ:=List (Nat × AV)
inductive A_ where
|c?
|dead
|box (cs:List AC)
|arr (s:Nat) (es:List (List AC))
|map (es:List (D × AV))
|G_ (t:Nat × Nat) (b:Nat)
abbrev oV:=List A_
abbrev oU:=List (Nat × A_)
abbrev Hp:=Nat->A_
def hcells(h:PH)(B:Nat):List Value:=
 match h B with
 |some (.cells c _ _)=>c.toList
 |_=>[]
def cellsAt(h:PH):Option Addr->List Value
|some p=>(hcells h p.block).drop p.off
|none=>[]
def zaf:Nat:=4611686018427387904
mutual
def RepD(h:PH):D->Value->Prop
|.any,_=>True
|.int k n,v=>v=.int k n/\k.min<=n/\n<=k.max
|.bool b,v=>v=.bool b
|.str s,v=>v=.string s/\s.size<=zaf
|.sc u,v=>v=u
| .sl x s es,v=>∃a cap,v=.slice a (lN es) cap/\lN es<=cap/\(x=tT->cap=lN es)/\lN es<=zaf/\
  (a=nN->es=[]/\cap=0)/\(∀p,a=sS p->0<cap->p.spot=nN)/\RepE h s es (cellsAt h a)
|.rp cs off,v=>∃B o,v=.pointer (sS ⟨B,o+off,nN⟩)/\RepL h cs ((hcells h B).drop o)
|.fn f k_,v=>∃vs:List Value,v=.func f #[] vs.toArray/\lN vs=lN k_/\RepL h k_ vs
|.ifc t ag cs,v=>∃vs:List Value,v=.iface t (if ag then .agg vs.toArray else vs.headD undef)/\lN vs=lN cs/\(ag=oK->lN cs=1)/\RepL h cs vs
|.mp ks us,v=>∃(B:Nat) (ms:List MapEntry) (ck:Nat),v=.map (sS B)/\h B=sS (.map ms.toArray ck)/\lN ms=lN ks/\lN ms=lN us/\RepL h ks (ms.map (·.key))/\RepL h us (ms.map (·.val))
def RepL(h:PH):List D->List Value->Prop
|[],_=>True
|_::_,[]=>False
|d::ds,v::vs=>(v.one1=tT/\RepD h d v)/\RepL h ds vs
def RepE(h:PH)(s:Nat):List (List D)->List Value->Prop
|[],_=>True
|e::es,vs=>lN e=s/\RepL h e vs/\RepE h s es (vs.drop s)
end
def PH.le(h h':PH):Prop:=∀B o,h B=sS o->h' B=sS o
def PH.le_refl(h:PH):h.le h:=λ_ _ e=>e
def PH.le_trans{a b c:PH}(h:a.le b)(k:b.le c):a.le c:=λB o e=>k B o (h B o e)
def zDy{h h':PH}(hle:h.le h')(B:Nat):∃t,hcells h' B=hcells h B++t:=by
 unfold hcells;cases e:h B with
 |none=>exact⟨_,by simp;rfl⟩
 |some o=>rw[hle B o e];exact⟨[],oC⟩
def Vg{h h':PH}(hle:h.le h')(B n:Nat):∃t,(hcells h' B).drop n=(hcells h B).drop n++t:=by
 let⟨t,ht⟩:=zDy hle B;rw[ht,List.drop_append];exact⟨_,rfl⟩
def zBi{h h':PH}(hle:h.le h')(a:Option Addr):∃t,cellsAt h' a=cellsAt h a++t:=by
 cases a with
 |none=>exact⟨[],rfl⟩
 |some p=>exact Vg hle _ _
mutual
def RepD.mono{h h':PH}(hle:h.le h'):∀(d:D) (v:Value),RepD h d v->RepD h' d v
|.any,_,_=>by simp[RepD]
|.int k n,_,r=>by simpa[RepD]using r
|.bool b,_,r=>by simpa[RepD]using r
|.str s,_,r=>by simpa[RepD]using r
|.sc u,_,r=>by simpa[RepD]using r
|.sl x s es,v,r=>by
 simp only[RepD]at r⊢;let⟨a,cap,h1,h2,h3,h4,h5,h6,h7⟩:=r;refine⟨a,cap,h1,h2,h3,h4,h5,h6,?_⟩;let⟨t,ht⟩:=zBi hle a;rw[ht];exact RepE.mono hle es _ t h7
|.rp cs off,v,r=>by
 simp only[RepD]at r⊢;let⟨B,o,h1,h2⟩:=r;refine⟨B,o,h1,?_⟩;let⟨t,ht⟩:=Vg hle B o;rw[ht];exact RepL.mono hle cs _ t h2
|.fn f k_,v,r=>by
 simp only[RepD]at r⊢;let⟨vs,h1,h2,h3⟩:=r;refine⟨vs,h1,h2,?_⟩;simpa using RepL.mono hle k_ vs [] h3
|.ifc t ag cs,v,r=>by
 simp only[RepD]at r⊢;let⟨vs,h1,h2,h3,h4⟩:=r;refine⟨vs,h1,h2,h3,?_⟩;simpa using RepL.mono hle cs vs [] h4
|.mp ks us,v,r=>by
 simp only[RepD]at r⊢;let⟨B,ms,ck,h1,h2,h3,h4,h5,h6⟩:=r;refine⟨B,ms,ck,h1,hle _ _ h2,h3,h4,?_,?_⟩
 .simpa using RepL.mono hle ks (ms.map (·.key)) [] h5
 .simpa using RepL.mono hle us (ms.map (·.val)) [] h6
def RepL.mono{h h':PH}(hle:h.le h'):∀(ds:List D) (vs t:List Value),RepL h ds vs->RepL h' ds (vs++t)
|[],_,_,_=>by simp[RepL]
|d::ds,[],_,r=>by simp[RepL]at r
|d::ds,v::vs,t,r=>by
 simp only[RepL,List.cons_append]at r⊢;exact⟨⟨r.1.1,RepD.mono hle d v r.1.2⟩,RepL.mono hle ds vs t r.2⟩
def RepE.mono{h h':PH}(hle:h.le h'){s:Nat}:∀(es:List (List D)) (vs t:List Value),RepE h s es vs->RepE h' s es (vs++t)
|[],_,_,_=>by simp[RepE]
|e::es,vs,t,r=>by
 simp only[RepE]at r⊢;refine⟨r.1,RepL.mono hle e vs t r.2.1,?_⟩;rw[List.drop_append];exact RepE.mono hle es _ _ r.2.2
end
def RepL.mono'{h h':PH}(hle:h.le h'){ds:List D}{vs:List Value}(r:RepL h ds vs):RepL h' ds vs:=by
 simpa using RepL.mono hle ds vs [] r
def RepL.length{h:PH}:∀{ds:List D} {vs:List Value},RepL h ds vs->ds.length<=vs.length
|[],_,_=>by simp
|_::_,[],r=>by simp[RepL]at r
|d::ds,v::vs,r=>by
 simp only[RepL]at r;have:=RepL.length r.2;simpa using this
def RepL.get{h:PH}:∀{ds:List D} {vs:List Value} {j:Nat} {x:D},RepL h ds vs->ds[j]?=sS x->∃v,vs[j]?=sS v/\v.one1=tT/\RepD h x v
|[],_,j,x,_,e=>by simp at e
|_::_,[],_,_,r,_=>by simp[RepL]at r
|d::ds,v::vs,0,x,r,e=>by
 simp only[RepL]at r;simp at e;subst e;exact⟨v,oC,r.1.1,r.1.2⟩
|d::ds,v::vs,j+1,x,r,e=>by
 simp only[RepL]at r;simp only[List.getElem?_cons_succ]at e⊢;exact RepL.get r.2 e
def RepL.take{h:PH}:∀{ds:List D} {vs:List Value},RepL h ds vs->RepL h ds (vs.take (lN ds))
|[],_,_=>by simp[RepL]
|_::_,[],r=>by simp[RepL]at r
|d::ds,v::vs,r=>by
 simp only[RepL,List.length_cons,List.take_succ_cons]at r⊢;exact⟨r.1,RepL.take r.2⟩
def RepL.drop{h:PH}:∀{ds:List D} {vs:List Value} (n:Nat),RepL h ds vs->RepL h (ds.drop n) (vs.drop n)
|[],_,n,_=>by simp[RepL]
|_::_,[],_,r=>by simp[RepL]at r
|d::ds,v::vs,0,r=>uM r
|d::ds,v::vs,n+1,r=>by
 simp only[RepL]at r;simpa using RepL.drop n r.2
def RepL.takeDs{h:PH}:∀{ds:List D} {vs:List Value} (n:Nat),RepL h ds vs->RepL h (ds.take n) vs
|[],_,n,_=>by simp[RepL]
|_::_,[],_,r=>by simp[RepL]at r
|d::ds,v::vs,0,r=>by simp[RepL]
|d::ds,v::vs,n+1,r=>by
 simp only[RepL,List.take_succ_cons]at r⊢;exact⟨r.1,RepL.takeDs n r.2⟩
def RepE.get{h:PH}{s:Nat}:∀{es:List (List D)} {vs:List Value} {i:Nat} {e:List D},RepE h s es vs->es[i]?=sS e->lN e=s/\RepL h e (vs.drop (i*s))
|[],_,i,e,_,hi=>by simp at hi
|e0::es,vs,0,e,r,hi=>by
 simp only[RepE]at r;simp at hi;subst hi;exact⟨r.1,uM r.2.1⟩
|e0::es,vs,i+1,e,r,hi=>by
 simp only[RepE]at r;simp only[List.getElem?_cons_succ]at hi;have:=RepE.get r.2.2 hi;refine⟨this.1,?_⟩;rw[bX]at this;have e1:s+i*s=(i+1)*s:=by rw[bF,cu,dU]
 rw[<-e1];exact this.2
def RepE.drop{h:PH}{s:Nat}:∀{es:List (List D)} {vs:List Value} (n:Nat),RepE h s es vs->RepE h s (es.drop n) (vs.drop (n*s))
|[],_,n,_=>by simp[RepE]
|e0::es,vs,0,r=>uM r
|e0::es,vs,n+1,r=>by
 simp only[RepE]at r;have:=RepE.drop n r.2.2;rw[bX]at this;have e1:s+n*s=(n+1)*s:=by rw[bF,cu,dU]
 rw[<-e1];simpa using this
def RepE.take{h:PH}{s:Nat}:∀{es:List (List D)} {vs:List Value} (n:Nat),RepE h s es vs->RepE h s (es.take n) vs
|[],_,n,_=>by simp[RepE]
|e0::es,vs,0,r=>by simp[RepE]
|e0::es,vs,n+1,r=>by
 simp only[RepE,List.take_succ_cons]at r⊢;exact⟨r.1,r.2.1,RepE.take n r.2.2⟩
def RepE.total{h:PH}{s:Nat}:∀{es:List (List D)} {vs:List Value},RepE h s es vs->es.length*s<=vs.length
|[],_,_=>by simp
|e0::es,vs,r=>by
 simp only[RepE]at r;have h1:=RepL.length r.2.1;have h2:=RepE.total r.2.2;simp only[List.length_drop]at h2;simp only[List.length_cons,bF,cu];by_cases hs:s<=vs.length
 .omega
 .omega
def RepL.append{h:PH}:∀{ds:List D} {vs:List Value} {ds':List D} {vs':List Value},RepL h ds vs->lN vs=lN ds->RepL h ds' vs'->RepL h (ds++ds') (vs++vs')
|[],[],_,_,_,_,r=>uM r
|[],_::_,_,_,_,e,_=>by simp at e
|_::_,[],_,_,r,_,_=>by simp[RepL]at r
|d::ds,v::vs,ds',vs',r,e,r'=>by
 simp only[RepL,List.cons_append]at r⊢;exact⟨r.1,RepL.append r.2 (uM e) r'⟩
mutual
def m_(h:PH)(ρ:RM):AC->Value->Prop
|.d x,v=>RepD h x v
|.ptr b off,v=>∃p,ρ b=sS p/\v=.pointer (sS ⟨p.1,off,nN⟩)
|.ept s b i off,v=>∃p,ρ b=sS p/\v=.pointer (sS ⟨p.1,i*s+off,nN⟩)
|.x_ s b off len,v=>∃p a,ρ b=sS p/\v=.slice a len (p.2-off)/\off+len<=p.2/\(off<p.2->a=sS ⟨p.1,off*s,nN⟩)/\(∀q,a=sS q->0<p.2-off->q.spot=nN)
|.map b,v=>∃p,ρ b=sS p/\v=.map (sS p.1)
|.fn f k_,v=>∃vs:List Value,v=.func f #[] vs.toArray/\lN vs=lN k_/\gY h ρ k_ vs
|.op r,v=>r v
def gY(h:PH)(ρ:RM):List AC->List Value->Prop
|[],_=>True
|_::_,[]=>False
|c::cs,v::vs=>(v.one1=tT/\m_ h ρ c v)/\gY h ρ cs vs
end
mutual
def g_(h:PH)(ρ:RM):AV->Value->Prop
|.c x,v=>m_ h ρ x v
|.ag cs,v=>∃vs:List Value,v=.agg vs.toArray/\lN vs=lN cs/\gY h ρ cs vs
|.a? xs,v=>∃vs:List Value,v=.tuple vs.toArray/\iC h ρ xs vs
def iC(h:PH)(ρ:RM):List AV->List Value->Prop
|[],vs=>vs=[]
|_::_,[]=>False
|x::xs,v::vs=>g_ h ρ x v/\iC h ρ xs vs
end
def gp(h:PH)(ρ:RM)(s:Nat):List (List AC)->List Value->Prop
|[],_=>True
|e::es,vs=>lN e=s/\gY h ρ e vs/\gp h ρ s es (vs.drop s)
mutual
def jJ(h:PH):DV->Value->Prop
|.one x,v=>RepD h x v
|.agg cs,v=>∃vs:List Value,v=.agg vs.toArray/\lN vs=lN cs/\RepL h cs vs
|.a? xs,v=>∃vs:List Value,v=.tuple vs.toArray/\il h xs vs
def il(h:PH):List DV->List Value->Prop
|[],vs=>vs=[]
|_::_,[]=>False
|x::xs,v::vs=>jJ h x v/\il h xs vs
end
def RM.le(ρ ρ':RM):Prop:=∀b p,ρ b=sS p->ρ' b=sS p
def RM.le_refl(ρ:RM):ρ.le ρ:=λ_ _ e=>e
def RM.le_trans{a b c:RM}(h:a.le b)(k:b.le c):a.le c:=λx p e=>k x p (h x p e)
section
variable {h h':PH} {ρ ρ':RM}
mutual
def m_.mono(hle:h.le h')(rle:ρ.le ρ'):∀(c:AC) (v:Value),m_ h ρ c v->m_ h' ρ' c v
|.d x,v,r=>by simp only[m_]at r⊢;exact RepD.mono hle x v r
|.ptr b off,v,r=>by simp only[m_]at r⊢;let⟨p,h1,h2⟩:=r;exact⟨p,rle _ _ h1,h2⟩
|.ept s b i off,v,r=>by simp only[m_]at r⊢;let⟨p,h1,h2⟩:=r;exact⟨p,rle _ _ h1,h2⟩
|.x_ s b off len,v,r=>by simp only[m_]at r⊢;let⟨p,a,h1,h2⟩:=r;exact⟨p,a,rle _ _ h1,h2⟩
|.map b,v,r=>by simp only[m_]at r⊢;let⟨p,h1,h2⟩:=r;exact⟨p,rle _ _ h1,h2⟩
|.fn f k_,v,r=>by
 simp only[m_]at r⊢;let⟨vs,h1,h2,h3⟩:=r;exact⟨vs,h1,h2,gY.mono hle rle k_ vs h3⟩
|.op q,v,r=>by simpa only[m_]using r
def gY.mono(hle:h.le h')(rle:ρ.le ρ'):∀(cs:List AC) (vs:List Value),gY h ρ cs vs->gY h' ρ' cs vs
|[],_,_=>by simp[gY]
|_::_,[],r=>by simp[gY]at r
|c::cs,v::vs,r=>by
 simp only[gY]at r⊢;exact⟨⟨r.1.1,m_.mono hle rle c v r.1.2⟩,gY.mono hle rle cs vs r.2⟩
end
mutual
def g_.mono(hle:h.le h')(rle:ρ.le ρ'):∀(x:AV) (v:Value),g_ h ρ x v->g_ h' ρ' x v
|.c x,v,r=>by simp only[g_]at r⊢;exact m_.mono hle rle x v r
|.ag cs,v,r=>by
 simp only[g_]at r⊢;let⟨vs,h1,h2,h3⟩:=r;exact⟨vs,h1,h2,gY.mono hle rle cs vs h3⟩
|.a? xs,v,r=>by
 simp only[g_]at r⊢;let⟨vs,h1,h2⟩:=r;exact⟨vs,h1,iC.mono hle rle xs vs h2⟩
def iC.mono(hle:h.le h')(rle:ρ.le ρ'):∀(xs:List AV) (vs:List Value),iC h ρ xs vs->iC h' ρ' xs vs
|[],_,r=>by simpa[iC]using r
|_::_,[],r=>by simp[iC]at r
|x::xs,v::vs,r=>by
 simp only[iC]at r⊢;exact⟨g_.mono hle rle x v r.1,iC.mono hle rle xs vs r.2⟩
end
def gp.mono(hle:h.le h')(rle:ρ.le ρ'){s:Nat}:∀(es:List (List AC)) (vs:List Value),gp h ρ s es vs->gp h' ρ' s es vs
|[],_,_=>by simp[gp]
|e::es,vs,r=>by
 simp only[gp]at r⊢;exact⟨r.1,gY.mono hle rle e vs r.2.1,gp.mono hle rle es _ r.2.2⟩
def gY.get:∀{ds:List AC} {vs:List Value} {j:Nat} {x:AC},gY h ρ ds vs->ds[j]?=sS x->∃v,vs[j]?=sS v/\v.one1=tT/\m_ h ρ x v
|[],_,j,x,_,e=>by simp at e
|_::_,[],_,_,r,_=>by simp[gY]at r
|d::ds,v::vs,0,x,r,e=>by
 simp only[gY]at r;simp at e;subst e;exact⟨v,oC,r.1.1,r.1.2⟩
|d::ds,v::vs,j+1,x,r,e=>by
 simp only[gY]at r;simp only[List.getElem?_cons_succ]at e⊢;exact gY.get r.2 e
def gY.length:∀{ds:List AC} {vs:List Value},gY h ρ ds vs->ds.length<=vs.length
|[],_,_=>by simp
|_::_,[],r=>by simp[gY]at r
|d::ds,v::vs,r=>by
 simp only[gY]at r;have:=gY.length r.2;simpa using this
def gY.take:∀{ds:List AC} {vs:List Value},gY h ρ ds vs->gY h ρ ds (vs.take (lN ds))
|[],_,_=>by simp[gY]
|_::_,[],r=>by simp[gY]at r
|d::ds,v::vs,r=>by
 simp only[gY,List.length_cons,List.take_succ_cons]at r⊢;exact⟨r.1,gY.take r.2⟩
def gY.drop:∀{ds:List AC} {vs:List Value} (n:Nat),gY h ρ ds vs->gY h ρ (ds.drop n) (vs.drop n)
|[],_,n,_=>by simp[gY]
|_::_,[],_,r=>by simp[gY]at r
|d::ds,v::vs,0,r=>uM r
|d::ds,v::vs,n+1,r=>by
 simp only[gY]at r;simpa using gY.drop n r.2
def gY.takeDs:∀{ds:List AC} {vs:List Value} (n:Nat),gY h ρ ds vs->gY h ρ (ds.take n) vs
|[],_,n,_=>by simp[gY]
|_::_,[],_,r=>by simp[gY]at r
|d::ds,v::vs,0,r=>by simp[gY]
|d::ds,v::vs,n+1,r=>by
 simp only[gY,List.take_succ_cons]at r⊢;exact⟨r.1,gY.takeDs n r.2⟩
def gY.more:∀{ds:List AC} {vs:List Value} (t:List Value),gY h ρ ds vs->gY h ρ ds (vs++t)
|[],_,t,_=>by simp[gY]
|_::_,[],_,r=>by simp[gY]at r
|d::ds,v::vs,t,r=>by
 simp only[gY,List.cons_append]at r⊢;exact⟨r.1,gY.more t r.2⟩
def gY.set:∀{ds:List AC} {vs:List Value} {j:Nat} {x:AC} {v:Value},gY h ρ ds vs->v.one1=tT->m_ h ρ x v->gY h ρ (ds.set j x) (vs.set j v)
|[],_,_,_,_,_,_,_=>by simp[gY]
|_::_,[],_,_,_,r,_,_=>by simp[gY]at r
|d::ds,v::vs,0,x,u,r,e,q=>by
 simp only[gY,List.set_cons_zero]at r⊢;exact⟨⟨e,q⟩,r.2⟩
|d::ds,v::vs,j+1,x,u,r,e,q=>by
 simp only[gY,List.set_cons_succ]at r⊢;exact⟨r.1,gY.set r.2 e q⟩
def gY.of_D:∀{ds:List D} {vs:List Value},RepL h ds vs->gY h ρ (ds.map .d) vs
|[],_,_=>by simp[gY]
|_::_,[],r=>by simp[RepL]at r
|d::ds,v::vs,r=>by
 simp only[RepL]at r;simp only[List.map_cons,gY,m_];exact⟨r.1,gY.of_D r.2⟩
def gY.to_D:∀{ds:List D} {vs:List Value},gY h ρ (ds.map .d) vs->RepL h ds vs
|[],_,_=>by simp[RepL]
|_::_,[],r=>by simp[gY]at r
|d::ds,v::vs,r=>by
 simp only[List.map_cons,gY,m_]at r;simp only[RepL];exact⟨r.1,gY.to_D r.2⟩
def gp.get{s:Nat}:∀{es:List (List AC)} {vs:List Value} {i:Nat} {e:List AC},gp h ρ s es vs->es[i]?=sS e->lN e=s/\gY h ρ e (vs.drop (i*s))
|[],_,i,e,_,hi=>by simp at hi
|e0::es,vs,0,e,r,hi=>by
 simp only[gp]at r;simp at hi;subst hi;exact⟨r.1,uM r.2.1⟩
|e0::es,vs,i+1,e,r,hi=>by
 simp only[gp]at r;simp only[List.getElem?_cons_succ]at hi;have:=gp.get r.2.2 hi;refine⟨this.1,?_⟩;rw[bX]at this;have e1:s+i*s=(i+1)*s:=by rw[bF,cu,dU]
 rw[<-e1];exact this.2
def gp.total{s:Nat}:∀{es:List (List AC)} {vs:List Value},gp h ρ s es vs->es.length*s<=vs.length
|[],_,_=>by simp
|e0::es,vs,r=>by
 simp only[gp]at r;have h1:=gY.length r.2.1;have h2:=gp.total r.2.2;simp only[List.length_drop]at h2;simp only[List.length_cons,bF,cu];by_cases hs:s<=vs.length
 .omega
 .omega
def gp.more{s:Nat}:∀{es:List (List AC)} {vs:List Value} (t:List Value),gp h ρ s es vs->gp h ρ s es (vs++t)
|[],_,t,_=>by simp[gp]
|e::es,vs,t,r=>by
 simp only[gp]at r⊢;refine⟨r.1,r.2.1.more t,?_⟩;rw[List.drop_append];exact gp.more _ r.2.2
def gp.append{s:Nat}:∀{es:List (List AC)} {vs:List Value} {es':List (List AC)} {vs':List Value},gp h ρ s es vs->lN vs=lN es*s->gp h ρ s es' vs'->gp h ρ s (es++es') (vs++vs')
|[],vs,_,_,_,e,r=>by
 have:vs=[]:=uM e;subst this;simpa using r
|e0::es,vs,es',vs',r,e,r'=>by
 simp only[gp,List.cons_append]at r⊢;have hl:lN vs=s+lN es*s:=by simpa[bF,dU]using e
 refine⟨r.1,r.2.1.more vs',?_⟩;rw[bV oM];exact gp.append r.2.2 (by simp;omega) r'
def gp.of_E{s:Nat}:∀{es:List (List D)} {vs:List Value},RepE h s es vs->gp h ρ s (es.map (·.map .d)) vs
|[],_,_=>by simp[gp]
|e::es,vs,r=>by
 simp only[RepE]at r;simp only[List.map_cons,gp,aa];exact⟨r.1,gY.of_D r.2.1,gp.of_E r.2.2⟩
def gp.to_E{s:Nat}:∀{es:List (List D)} {vs:List Value},gp h ρ s (es.map (·.map .d)) vs->RepE h s es vs
|[],_,_=>by simp[RepE]
|e::es,vs,r=>by
 simp only[List.map_cons,gp,aa]at r;simp only[RepE];exact⟨r.1,gY.to_D r.2.1,gp.to_E r.2.2⟩
def gp.takeEs{s:Nat}:∀{es:List (List AC)} {vs:List Value} (n:Nat),gp h ρ s es vs->gp h ρ s (es.take n) vs
|[],_,n,_=>by simp[gp]
|e0::es,vs,0,r=>by simp[gp]
|e0::es,vs,n+1,r=>by
 simp only[gp,List.take_succ_cons]at r⊢;exact⟨r.1,r.2.1,gp.takeEs n r.2.2⟩
def gp.drop{s:Nat}:∀{es:List (List AC)} {vs:List Value} (n:Nat),gp h ρ s es vs->gp h ρ s (es.drop n) (vs.drop (n*s))
|[],_,n,_=>by simp[gp]
|e0::es,vs,0,r=>uM r
|e0::es,vs,n+1,r=>by
 simp only[gp]at r;have:=gp.drop n r.2.2;rw[bX]at this;have e1:s+n*s=(n+1)*s:=by rw[bF,cu,dU]
 rw[<-e1];simpa using this
end
abbrev fU:=@PH.le_refl
abbrev fV:=@RM.le_refl
end Go.Abs
namespace Go.Abs
variable {p:Nat × Nat}{b B:Nat}{blk:A_}{α:Type}
def upd(f:Nat->α)(k:Nat)(v:α):Nat->α:=λj=>if j=k then v else f j
def zam(f:Nat->α)(k:Nat)(v:α):upd f k v k=v:=by simp[upd]
def zao(f:Nat->α){k j:Nat}(v:α)(h:j≠k):upd f k v j=f j:=by simp[upd,h]
def Real:A_->Nat × Nat->Prop
|.c?,_|.dead,_|.G_ _ _,_=>False
|.arr _ _,p=>0<p.2
|_,_=>True
def Y'(h:PH)(ρ:RM):List (D × AV)->List MapEntry->Prop
|[],ms=>ms=[]
|_::_,[]=>False
|e::es,x::ms=>(RepD h e.1 x.key/\g_ h ρ e.2 x.val)/\Y' h ρ es ms
def Y'.mono{h h':PH}{ρ ρ':RM}(hle:h.le h')(rle:ρ.le ρ'):∀(es:List (D × AV)) (ms:List MapEntry),Y' h ρ es ms->Y' h' ρ' es ms
|[],_,r=>by simpa[Y']using r
|_::_,[],r=>by simp[Y']at r
|e::es,x::ms,r=>by
 simp only[Y']at r⊢;exact⟨⟨RepD.mono hle _ _ r.1.1,g_.mono hle rle _ _ r.1.2⟩,Y'.mono hle rle es ms r.2⟩
abbrev Heap:=Array Obj
def iw(h:PH)(ρ:RM)(p:Nat × Nat):A_->Heap->Prop
|.c?,_=>True
|.dead,_=>True
|.G_ t b,_=>p=t/\ρ b=sS t
|.box cs,w=>∃(vs:oP) (T:TypeId),w[p.1]?=sS (.cells vs.toArray T (0,0))/\lN vs=lN cs/\gY h ρ cs vs
|.arr s es,w=>(p.2=0/\es=[])\/∃(vs:oP) (T:TypeId),w[p.1]?=sS (.cells vs.toArray T (0,0))/\lN vs=p.2*s/\lN es<=p.2/\lN es<=zaf/\gp h ρ s es vs
|.map es,w=>∃(ms:sU) (clock:Nat),w[p.1]?=sS (.map ms.toArray clock)/\Y' h ρ es ms/\(∀e,e∈ms->e.born<clock)/\(ms.map (·.born)).Nodup
structure E_ (h:PH) (ρ:RM) (m:Hp) (w:Heap):Prop where
 pers:∀B o,h B=sS o->w[B]?=sS o
 dom:∀b,m b=.c?↔ρ b=nN
 own:∀b p,ρ b=sS p->iw h ρ p (m b) w
 inj:∀b c p q,ρ b=sS p->ρ c=sS q->Real (m b) p->Real (m c) q->p.1=q.1->b=c
 sep:∀b p,ρ b=sS p->Real (m b) p->h p.1=nN
def jK(ρ:RM)(m:Hp)(B:Nat):Prop:=∀b p,ρ b=sS p->Real (m b) p->p.1≠B
structure Step (h:PH) (ρ:RM) (m:Hp) (w:Heap) (h':PH) (ρ':RM) (m':Hp) (w':Heap):Prop where
 hle:h.le h'
 hlow:∀B,B<w.size->jK ρ m B->h' B=h B
 rle:ρ.le ρ'
 size:w.size<=w'.size
 frame:∀B,B<w.size->jK ρ m B->w'[B]?=w[B]?
 own:∀b p,ρ' b=sS p->Real (m' b) p->w.size<=p.1\/∃c q,ρ c=sS q/\Real (m c) q/\q.1=p.1
def Step.free{h h':PH}{ρ ρ':RM}{m m':Hp}{w w':Heap}(s:Step h ρ m w h' ρ' m' w')(hB:B<w.size)(hf:jK ρ m B):jK ρ' m' B:=by
 intro b p hp hr e;rcases s.own b p hp hr with h1|⟨c,q,hc,hq,e1⟩
 .omega
 .exact hf c q hc hq (e1.trans e)
def Step.trans{h h' h'':PH}{ρ ρ' ρ'':RM}{m m' m'':Hp}{w w' w'':Heap}(s:Step h ρ m w h' ρ' m' w')(t:Step h' ρ' m' w' h'' ρ'' m'' w''):
  Step h ρ m w h'' ρ'' m'' w'' where
 hle:=PH.le_trans s.hle t.hle
 hlow B hB hf:=(t.hlow B (cB hB s.size) (s.free hB hf)).trans (s.hlow B hB hf)
 rle:=RM.le_trans s.rle t.rle
 size:=aX s.size t.size
 frame B hB hf:=(t.frame B (cB hB s.size) (s.free hB hf)).trans (s.frame B hB hf)
 own b p hp hr:=by
  rcases t.own b p hp hr with h1|⟨c,q,hc,hq,e1⟩
  .exact .inl (aX s.size h1)
  .rcases s.own c q hc hq with h2|⟨d,r,hd,hr',e2⟩
   .exact .inl oM
   .exact .inr ⟨d,r,hd,hr',e2.trans e1⟩
structure tY (h:PH) (ρ:RM) (m:Hp) (w:Heap) (h':PH) (ρ':RM) (m':Hp) (w':Heap):Prop where
 hle:h.le h'
 hlow:∀B,B<w.size->jK ρ m B->h' B=h B
 size:w.size<=w'.size
 frame:∀B,B<w.size->jK ρ m B->w'[B]?=w[B]?
 own:∀b p,ρ' b=sS p->Real (m' b) p->w.size<=p.1\/∃c q,ρ c=sS q/\Real (m c) q/\q.1=p.1
def Step.wk{h h':PH}{ρ ρ':RM}{m m':Hp}{w w':Heap}(s:Step h ρ m w h' ρ' m' w'):tY h ρ m w h' ρ' m' w':=⟨s.hle,s.hlow,s.size,s.frame,s.own⟩
def tY.free{h h':PH}{ρ ρ':RM}{m m':Hp}{w w':Heap}(s:tY h ρ m w h' ρ' m' w')(hB:B<w.size)(hf:jK ρ m B):jK ρ' m' B:=by
 intro b p hp hr e;rcases s.own b p hp hr with h1|⟨c,q,hc,hq,e1⟩
 .omega
 .exact hf c q hc hq (e1.trans e)
def tY.trans{h h' h'':PH}{ρ ρ' ρ'':RM}{m m' m'':Hp}{w w' w'':Heap}(s:tY h ρ m w h' ρ' m' w')(t:Step h' ρ' m' w' h'' ρ'' m'' w''):
  tY h ρ m w h'' ρ'' m'' w'' where
 hle:=PH.le_trans s.hle t.hle
 hlow B hB hf:=(t.hlow B (cB hB s.size) (s.free hB hf)).trans (s.hlow B hB hf)
 size:=aX s.size t.size
 frame B hB hf:=(t.frame B (cB hB s.size) (s.free hB hf)).trans (s.frame B hB hf)
 own b p hp hr:=by
  rcases t.own b p hp hr with h1|⟨c,q,hc,hq,e1⟩
  .exact .inl (aX s.size h1)
  .rcases s.own c q hc hq with h2|⟨d,r,hd,hr',e2⟩
   .exact .inl oM
   .exact .inr ⟨d,r,hd,hr',e2.trans e1⟩
theorem Step.refl(h:PH)(ρ:RM)(m:Hp)(w:Heap):Step h ρ m w h ρ m w where
 hle:=fU h
 hlow _ _ _:=rfl
 rle:=fV ρ
 size:=aJ _
 frame _ _ _:=rfl
 own b p hp hr:=.inr ⟨b,p,hp,hr,rfl⟩
section
variable {h h':PH} {ρ ρ':RM} {m m':Hp} {w w':Heap}
def E_.lt(H:E_ h ρ m w){o:Obj}(e:h B=sS o):B<w.size:=by
 have:=H.pers B o e;rcases aY B w.size with h1|h1
 .exact h1
 .rw[bI h1]at this;cases this
def iw.congr(hle:h.le h')(rle:ρ.le ρ')(e:w'[p.1]?=w[p.1]?)(r:iw h ρ p blk w):iw h' ρ' p blk w':=by
 cases blk with
 |c?=>trivial
 |dead=>trivial
 |box cs=>
  let⟨vs,T,h1,h2,h3⟩:=r;exact⟨vs,T,e.trans h1,h2,gY.mono hle rle _ _ h3⟩
 |arr s es=>
  rcases r with r|⟨vs,T,h1,h2,h3,h5,h4⟩
  .exact .inl r
  .exact .inr ⟨vs,T,e.trans h1,h2,h3,h5,gp.mono hle rle _ _ h4⟩
 |map es=>
  let⟨ms,ck,h1,h2,h3,h4⟩:=r;exact⟨ms,ck,e.trans h1,Y'.mono hle rle _ _ h2,h3,h4⟩
 |G_ t b=>exact⟨r.1,rle _ _ r.2⟩
def iw.notReal(hn:¬Real blk p)(r:iw h ρ p blk w)(h':PH){ρ':RM}(rle:ρ.le ρ')(w':Heap):iw h' ρ' p blk w':=by
 cases blk with
 |c?=>trivial
 |dead=>trivial
 |box cs=>exact absurd trivial hn
 |arr s es=>
  have h0:p.2=0:=by simp only[Real]at hn;omega
  rcases r with r|⟨vs,T,h1,h2,h3,h5,h4⟩
  .exact .inl r
  .exact .inl ⟨h0,aW.1 oM⟩
 |map es=>exact absurd trivial hn
 |G_ t b=>exact⟨r.1,rle _ _ r.2⟩
def iw.lt(hn:Real blk p)(r:iw h ρ p blk w):p.1<w.size:=by
 have key:∀o,w[p.1]?=sS o->p.1<w.size:=λo e=>by
  rcases aY p.1 w.size with h1|h1
  .exact h1
  .rw[bI h1]at e;cases e
 cases blk with
 |c?=>exact hn.elim
 |dead=>exact hn.elim
 |G_ t b=>exact hn.elim
 |box cs=>let⟨vs,T,h1,_⟩:=r;exact key _ h1
 |arr s es=>
  rcases r with r|⟨vs,T,h1,_⟩
  .simp only[Real]at hn;omega
  .exact key _ h1
 |map es=>let⟨vs,T,h1,_⟩:=r;exact key _ h1
def E_.J?(H:E_ h ρ m w)(e:ρ b=sS p)(hr:Real (m b) p):p.1<w.size:=iw.lt hr (H.own b p e)
def E_.grow(H:E_ h ρ m w)(hle:h.le h')(hp:∀B o,h' B=sS o->w'[B]?=sS o)
  (hf:∀B,B<w.size->¬jK ρ m B->w'[B]?=w[B]?/\h' B=h B):E_ h' ρ m w' where
 pers:=hp
 dom:=H.dom
 own b p e:=by
  by_cases hr:Real (m b) p
  .exact iw.congr hle (fV _) (hf p.1 (H.J? e hr) (λhh=>hh b p e hr rfl)).1 (H.own b p e)
  .exact iw.notReal hr (H.own b p e) _ (fV _) _
 inj:=H.inj
 sep b p e hr:=by
  rw[(hf p.1 (H.J? e hr) (λhh=>hh b p e hr rfl)).2];exact H.sep b p e hr
def HZ(w:Heap)(o:Obj)(hB:B<w.size):(w.push o)[B]?=w[B]?:=by
 rw[Array.getElem?_push,aB oM]
def H7(w:Heap)(o:Obj):(w.push o)[w.size]?=sS o:=oC
def E_.pushP(H:E_ h ρ m w)(o:Obj):E_ (upd h w.size (sS o)) ρ m (w.push o)/\Step h ρ m w (upd h w.size (sS o)) ρ m (w.push o):=by
 have hle:h.le (upd h w.size (sS o)):=λB q e=>by
  have:=H.lt e;rw[zao _ _ oM];exact e
 refine⟨H.grow hle ?_ ?_,⟨hle,λB hB _=>zao _ _ oM,fV _,oC,λB hB _=>HZ _ _ hB,λb p e hr=>.inr ⟨b,p,e,hr,rfl⟩⟩⟩
 .intro B q e;by_cases hB:B=w.size
  .subst hB;rw[zam]at e;rw[H7];exact e
  .rw[zao _ _ hB]at e;rw[HZ _ _ (H.lt e)];exact H.pers B q e
 .intro B hB _;exact⟨HZ _ _ hB,zao _ _ oM⟩
def FT(e:ρ b=nN):ρ.le (upd ρ b (sS p)):=λc q hc=>by
 by_cases hcb:c=b
 .subst hcb;rw[e]at hc;cases hc
 .rw[zao _ _ hcb];exact hc
def E_.pushO(H:E_ h ρ m w)(o:Obj)(hb:m b=.c?)(cap:Nat)(hlive:blk≠.c?)
  (_U:iw h (upd ρ b (sS (w.size,cap))) (w.size,cap) blk (w.push o)):
  E_ h (upd ρ b (sS (w.size,cap))) (upd m b blk) (w.push o)/\Step h ρ m w h (upd ρ b (sS (w.size,cap))) (upd m b blk) (w.push o):=by
 have e0:ρ b=nN:=(H.dom b).1 hb;have rle:=FT (p:=(w.size,cap)) e0;refine⟨⟨?_,?_,?_,?_,?_⟩,⟨fU h,λB hB _=>rfl,rle,oC,λB hB _=>HZ _ _ hB,?_⟩⟩
 .intro B q e;rw[HZ _ _ (H.lt e)];exact H.pers B q e
 .intro c;by_cases hc:c=b
  .subst hc;simp[zam,hlive]
  .rw[zao _ _ hc,zao _ _ hc];exact H.dom c
 .intro c p e;by_cases hc:c=b
  .subst hc;rw[zam]at e⊢;cases e;exact _U
  .rw[zao _ _ hc]at e⊢;by_cases hr:Real (m c) p
   .exact iw.congr (fU h) rle (HZ _ _ (H.J? e hr)) (H.own c p e)
   .exact iw.notReal hr (H.own c p e) _ rle _
 .intro c d p q hc hd hr hs e;by_cases h1:c=b<;>by_cases h2:d=b
  .rw[h1,h2]
  .subst h1;rw[zam]at hc;cases hc;rw[zao _ _ h2]at hd hs;have:=H.J? hd hs;simp at e;omega
  .subst h2;rw[zam]at hd;cases hd;rw[zao _ _ h1]at hc hr;have:=H.J? hc hr;simp at e;omega
  .rw[zao _ _ h1]at hc hr;rw[zao _ _ h2]at hd hs;exact H.inj c d p q hc hd hr hs e
 .intro c p e hr;by_cases hc:c=b
  .subst hc;rw[zam]at e;cases e;cases hh:h w.size with
   |none=>rfl
   |some q=>have:=H.lt hh;omega
  .rw[zao _ _ hc]at e hr;exact H.sep c p e hr
 .intro c p e hr;by_cases hc:c=b
  .subst hc;rw[zam]at e;cases e;exact .inl (aJ _)
  .rw[zao _ _ hc]at e hr;exact .inr ⟨c,p,e,hr,rfl⟩
def H8(w:Heap)(i:Nat)(o:Obj)(hB:B≠i):(w.setIfInBounds i o)[B]?=w[B]?:=by
 rw[bU (Ne.symm hB)]
def JF(w:Heap){i:Nat}(o:Obj)(hi:i<w.size):(w.setIfInBounds i o)[i]?=sS o:=by
 simp[dJ,hi]
def E_.set(H:E_ h ρ m w)(o:Obj)(e:ρ b=sS p)(hr:Real (m b) p)(hlive:blk≠.c?)
  (_U:iw h ρ p blk (w.setIfInBounds p.1 o)):
  E_ h ρ (upd m b blk) (w.setIfInBounds p.1 o)/\Step h ρ m w h ρ (upd m b blk) (w.setIfInBounds p.1 o):=by
 refine⟨⟨?_,?_,?_,?_,?_⟩,⟨fU h,λB hB _=>rfl,fV _,oC,?_,?_⟩⟩
 .intro B q hq;rw[H8 _ _ _ (λhh=>by subst hh;rw[H.sep b p e hr]at hq;cases hq)];exact H.pers B q hq
 .intro c;by_cases hc:c=b
  .subst hc;rw[zam,e];simp[hlive]
  .rw[zao _ _ hc];exact H.dom c
 .intro c q hq;by_cases hc:c=b
  .subst hc;rw[zam];rw[e]at hq;cases hq;exact _U
  .rw[zao _ _ hc];by_cases hs:Real (m c) q
   .exact iw.congr (fU h) (fV ρ) (H8 _ _ _ (λhh=>hc (H.inj c b q p hq e hs hr hh))) (H.own c q hq)
   .exact iw.notReal hs (H.own c q hq) _ (fV _) _
 .intro c d q r hc hd hs ht heq;by_cases h1:c=b<;>by_cases h2:d=b
  .rw[h1,h2]
  .subst h1;rw[zao _ _ h2]at ht;rw[e]at hc;cases hc;exact H.inj _ _ _ _ e hd hr ht heq
  .subst h2;rw[zao _ _ h1]at hs;rw[e]at hd;cases hd;exact H.inj _ _ _ _ hc e hs hr heq
  .rw[zao _ _ h1]at hs;rw[zao _ _ h2]at ht;exact H.inj c d q r hc hd hs ht heq
 .intro c q hq hs;by_cases hc:c=b
  .subst hc;rw[e]at hq;cases hq;exact H.sep _ _ e hr
  .rw[zao _ _ hc]at hs;exact H.sep c q hq hs
 .intro B hB hf;exact H8 _ _ _ (λhh=>hf b p e hr hh.symm)
 .intro c q hq hs;by_cases hc:c=b
  .subst hc;rw[e]at hq;cases hq;exact .inr ⟨_,_,e,hr,rfl⟩
  .rw[zao _ _ hc]at hs;exact .inr ⟨c,q,hq,hs,rfl⟩
def E_.kill(H:E_ h ρ m w)(hb:m b≠.c?):E_ h ρ (upd m b .dead) w/\Step h ρ m w h ρ (upd m b .dead) w:=by
 refine⟨⟨H.pers,?_,?_,?_,?_⟩,⟨fU h,λB hB _=>rfl,fV _,aJ _,λB hB _=>rfl,?_⟩⟩
 .intro c;by_cases hc:c=b
  .subst hc;rw[zam];constructor
   .intro h;cases h
   .intro h;exact absurd ((H.dom _).2 h) hb
  .rw[zao _ _ hc];exact H.dom c
 .intro c q hq;by_cases hc:c=b
  .subst hc;rw[zam];trivial
  .rw[zao _ _ hc];exact H.own c q hq
 .intro c d q r hc hd hs ht heq;by_cases h1:c=b
  .subst h1;rw[zam]at hs;exact hs.elim
  by_cases h2:d=b
  .subst h2;rw[zam]at ht;exact ht.elim
  rw[zao _ _ h1]at hs;rw[zao _ _ h2]at ht;exact H.inj c d q r hc hd hs ht heq
 .intro c q hq hs;by_cases hc:c=b
  .subst hc;rw[zam]at hs;exact hs.elim
  .rw[zao _ _ hc]at hs;exact H.sep c q hq hs
 .intro c q hq hs;by_cases hc:c=b
  .subst hc;rw[zam]at hs;exact hs.elim
  .rw[zao _ _ hc]at hs;exact .inr ⟨c,q,hq,hs,rfl⟩
def E_.move(H:E_ h ρ m w)(o:Obj){c:Nat}(e:ρ b=sS p)(hr:Real (m b) p)(hc:m c=.c?)(hlive:blk≠.c?)
  (_U:iw h (upd ρ c (sS p)) p blk (w.setIfInBounds p.1 o)):
  E_ h (upd ρ c (sS p)) (upd (upd m b .dead) c blk) (w.setIfInBounds p.1 o)/\Step h ρ m w h (upd ρ c (sS p)) (upd (upd m b .dead) c blk) (w.setIfInBounds p.1 o):=by
 have hbn:m b≠.c?:=λhh=>by rw[hh]at hr;exact hr
 have hcb:c≠b:=λhh=>by subst hh;exact hbn hc
 have e0:ρ c=Option.none:=(H.dom c).1 hc;have rle:=FT (p:=p) e0;refine⟨⟨?_,?_,?_,?_,?_⟩,⟨fU h,λB hB _=>rfl,rle,oC,?_,?_⟩⟩
 .intro B q hq;rw[H8 _ _ _ (λhh=>by subst hh;rw[H.sep b p e hr]at hq;cases hq)];exact H.pers B q hq
 .intro d;by_cases hd:d=c
  .subst hd;simp[zam,hlive]
  .rw[zao _ _ hd,zao _ _ hd];by_cases hb:d=b
   .subst hb;rw[zam,e];simp
   .rw[zao _ _ hb];exact H.dom d
 .intro d q hq;by_cases hd:d=c
  .subst hd;rw[zam]at hq⊢;cases hq;exact _U
  .rw[zao _ _ hd]at hq⊢;by_cases hb:d=b
   .subst hb;rw[zam];trivial
   .rw[zao _ _ hb];by_cases hs:Real (m d) q
    .exact iw.congr (fU h) rle (H8 _ _ _ (λhh=>hb (H.inj d b q p hq e hs hr hh))) (H.own d q hq)
    .exact iw.notReal hs (H.own d q hq) _ rle _
 .intro d d' q q' hd hd' hs hs' heq;have hdb:d≠b:=λhh=>by subst hh;rw[zao _ _ (Ne.symm hcb),zam]at hs;exact hs
  have hdb':d'≠b:=λhh=>by subst hh;rw[zao _ _ (Ne.symm hcb),zam]at hs';exact hs'
  by_cases h1:d=c<;>by_cases h2:d'=c
  .rw[h1,h2]
  .subst h1;rw[zam]at hd;cases hd;rw[zao _ _ h2]at hd' hs';rw[zao _ _ hdb']at hs';exact absurd (H.inj d' b q' p hd' e hs' hr heq.symm) hdb'
  .subst h2;rw[zam]at hd';cases hd';rw[zao _ _ h1]at hd hs;rw[zao _ _ hdb]at hs;exact absurd (H.inj d b q p hd e hs hr heq) hdb
  .rw[zao _ _ h1]at hd hs;rw[zao _ _ h2]at hd' hs';rw[zao _ _ hdb]at hs;rw[zao _ _ hdb']at hs';exact H.inj d d' q q' hd hd' hs hs' heq
 .intro d q hq hs;by_cases hd:d=c
  .subst hd;rw[zam]at hq;cases hq;exact H.sep b p e hr
  .rw[zao _ _ hd]at hq hs;have hdb:d≠b:=λhh=>by subst hh;rw[zam]at hs;exact hs
   rw[zao _ _ hdb]at hs;exact H.sep d q hq hs
 .intro B hB hf;exact H8 _ _ _ (λhh=>hf b p e hr hh.symm)
 .intro d q hq hs;by_cases hd:d=c
  .subst hd;rw[zam]at hq;cases hq;exact .inr ⟨b,p,e,hr,rfl⟩
  .rw[zao _ _ hd]at hq hs;have hdb:d≠b:=λhh=>by subst hh;rw[zam]at hs;exact hs
   rw[zao _ _ hdb]at hs;exact .inr ⟨d,q,hq,hs,rfl⟩
def E_.none(H:E_ h ρ m w)(hb:m b=.c?)(s:Nat):
  E_ h (upd ρ b (sS (0,0))) (upd m b (.arr s [])) w/\Step h ρ m w h (upd ρ b (sS (0,0))) (upd m b (.arr s [])) w:=by
 have e0:ρ b=Option.none:=(H.dom b).1 hb;have rle:=FT (p:=(0,0)) e0;refine⟨⟨H.pers,?_,?_,?_,?_⟩,⟨fU h,λB hB _=>rfl,rle,aJ _,λB hB _=>rfl,?_⟩⟩
 .intro d;by_cases hd:d=b
  .subst hd;simp[zam]
  .rw[zao _ _ hd,zao _ _ hd];exact H.dom d
 .intro d r hr;by_cases hd:d=b
  .subst hd;rw[zam]at hr⊢;cases hr;exact .inl ⟨rfl,rfl⟩
  .rw[zao _ _ hd]at hr⊢;exact iw.congr (fU h) rle rfl (H.own d r hr)
 .intro d d' r r' hd hd' hs hs' heq;by_cases h1:d=b
  .subst h1;rw[zam]at hd hs;cases hd;simp[Real]at hs
  by_cases h2:d'=b
  .subst h2;rw[zam]at hd' hs';cases hd';simp[Real]at hs'
  rw[zao _ _ h1]at hd hs;rw[zao _ _ h2]at hd' hs';exact H.inj d d' r r' hd hd' hs hs' heq
 .intro d r hr hs;by_cases hd:d=b
  .subst hd;rw[zam]at hr hs;cases hr;simp[Real]at hs
  .rw[zao _ _ hd]at hr hs;exact H.sep d r hr hs
 .intro d r hr hs;by_cases hd:d=b
  .subst hd;rw[zam]at hr hs;cases hr;simp[Real]at hs
  .rw[zao _ _ hd]at hr hs;exact .inr ⟨d,r,hr,hs,rfl⟩
def E_.freeze(H:E_ h ρ m w)(e:ρ b=sS p)(hr:Real (m b) p):
  E_ (upd h p.1 w[p.1]?) ρ (upd m b .dead) w/\Step h ρ m w (upd h p.1 w[p.1]?) ρ (upd m b .dead) w:=by
 have _k:=H.J? e hr;have hle:h.le (upd h p.1 w[p.1]?):=λB q hq=>by
  by_cases hB:B=p.1
  .subst hB;rw[H.sep b p e hr]at hq;cases hq
  .rw[zao _ _ hB];exact hq
 let⟨K,S⟩:=H.kill (b:=b) (λhh=>by rw[hh]at hr;exact hr);refine⟨⟨?_,K.dom,?_,K.inj,?_⟩,⟨hle,?_,fV _,aJ _,λB hB _=>rfl,S.own⟩⟩
 .intro B q hq;by_cases hB:B=p.1
  .subst hB;rw[zam]at hq;exact hq
  .rw[zao _ _ hB]at hq;exact H.pers B q hq
 .intro c q hq;exact iw.congr hle (fV _) rfl (K.own c q hq)
 .intro c q hq hs;have hcb:c≠b:=λhh=>by subst hh;rw[zam]at hs;exact hs
  rw[zao _ _ hcb]at hs;rw[zao _ _ (λhh=>hcb (H.inj c b q p hq e hs hr hh))];exact H.sep c q hq hs
 .intro B hB hf;rw[zao _ _ (λhh=>hf b p e hr hh.symm)]
end
end Go.Abs
namespace Go.Abs
variable {α β:Type}{B o r:Nat}{T:TypeId}{a:Addr}{v:Value}{c:Array Value}{vs:List Value}
def j_(P:Program)(x:Sem α)(w:World)(a:α)(w':World):Prop:=x.run P w=.ok a w'
section
variable {P:Program} {w w' w'':World}
def xn{f:α->Sem β}{a:α}:∀{x:Sem α} {w w':World},j_ P x w a w'->(x.bind f).run P w=(f a).run P w'
 |.pure b,w,w',h=>by simp[j_,Sem.run]at h;obtain⟨rfl,rfl⟩:=h;rfl
 | .load m p k,w,w',h=>by
   simp only[j_,Sem.run]at h;simp only[Sem.bind,Sem.run];split at h
   · exact xn h
   · split at h
     · exact xn h
     · cases h
 | .store m p v k,w,w',h=>by
   simp only[Sem.bind];unfold j_ at h
   cases v<;>simp only[Sem.run]at h⊢<;>first
     |(cases h;done)
     | (split at h
        · split at h
          · cases h
          · rename_i hf;simp only[hf];exact xn h
        · split at h
          · exact xn h
          · cases h)
 |.new o k,w,w',h=>by simp only[j_,Sem.run]at h;simp only[Sem.bind,Sem.run];exact xn h
 |.shape r k,w,w',h=>by simp only[j_,Sem.run]at h;simp only[Sem.bind,Sem.run];exact xn h
 |.freeze a n k,w,w',h=>by simp only[j_,Sem.run]at h;simp only[Sem.bind,Sem.run];exact xn h
 |.frozen a k,w,w',h=>by simp only[j_,Sem.run]at h;simp only[Sem.bind,Sem.run];exact xn h
 | .getObj r k,w,w',h=>by
   simp only[j_,Sem.run]at h;simp only[Sem.bind,Sem.run];split at h
   · cases h
   · exact xn h
   · cases h
 | .setObj r o k,w,w',h=>by
   simp only[j_,Sem.run]at h;simp only[Sem.bind,Sem.run];split at h
   · cases h
   · exact xn h
   · cases h
 | .choose q k,w,w',h=>by
   simp only[j_,Sem.run]at h;simp only[Sem.bind,Sem.run];split at h
   · rename_i hq;rw[aC hq];exact xn h
   · rename_i hq;rw[aB hq];exact xn h
 |.sys c k,w,w',h=>by simp only[j_,Sem.run]at h;simp only[Sem.bind,Sem.run];exact xn h
 |.program k,w,w',h=>by simp only[j_,Sem.run]at h;simp only[Sem.bind,Sem.run];exact xn h
 |.mark m k,w,w',h=>by simp only[j_,Sem.run]at h;simp only[Sem.bind,Sem.run];exact xn h
 |.halt x,w,w',h=>by simp[j_,Sem.run]at h
def j_.bind{α β:Type}{x:Sem α}{f:α->Sem β}{a:α}{b:β}(h:j_ P x w a w')(k:j_ P (f a) w' b w''):j_ P (x>>=f) w b w'':=by
 show(x.bind f).run P w=_;rw[xn h];exact k
theorem j_.pure{α:Type}(a:α):j_ P (Pure.pure a) w a w:=rfl
def j_.map{x:Sem α}{f:α->β}{a:α}(h:j_ P x w a w'):j_ P (Functor.map f x) w (f a) w':=by
 show j_ P (x>>=λa=>Pure.pure (f a)) w (f a) w';exact h.bind (j_.pure _)
theorem j_.program:j_ P program w P w:=rfl
def j_.typeInfo{t:TypeId}{i:TypeInfo}(h:P.info? t=sS i):j_ P (typeInfo t) w i w:=by
 simp[j_,Go.typeInfo,Bind.bind,Sem.bind,Sem.run,Go.program,h,Pure.pure]
def j_.underlying{t:TypeId}{d:TypeDesc}(h:P.underlying t=sS d):j_ P (underlying t) w d w:=by
 simp[j_,Go.underlying,Bind.bind,Sem.bind,Sem.run,Go.program,h,Pure.pure]
def j_.sizeOf{t:TypeId}{i:TypeInfo}(h:P.info? t=sS i):j_ P (sizeOf t) w i.size w:=(j_.typeInfo h).bind (j_.pure _)
def j_.zeroValue{t:TypeId}{i:TypeInfo}{z:Value}(h:P.info? t=sS i)(hz:i.zero=sS z):j_ P (zeroValue t) w z w:=by
 unfold Go.zeroValue;refine(j_.typeInfo h).bind ?_;simp only[hz];exact j_.pure _
def j_.load(h:w.cell? a=sS v):j_ P (load a) w v w:=by
 simp[j_,Go.load,Sem.run,h]
def j_.store{u:Value}(h:w.cell? a=sS u)(hf:w.frozen? a=oK)(h1:v.one1=tT):j_ P (store a v) w () (w.setCell a v):=by
 cases v<;>simp_all[j_,Go.store,Sem.run,Value.one1]
theorem j_.newObj(o:Obj):j_ P (newObj o) w w.heap.size {w with heap:=w.heap.push o}:=rfl
def j_.getObj{o:Obj}(h:w.heap[r]?=sS o)(hc:∀c e f,o≠.cells c e f):j_ P (getObj r) w o w:=by
 unfold j_;simp only[Go.getObj,Sem.run,h]
def j_.setObj{o o':Obj}(h:w.heap[r]?=sS o)(hc:∀c e f,o≠.cells c e f):j_ P (setObj r o') w () {w with heap:=w.heap.setIfInBounds r o'}:=by
 unfold j_;simp only[Go.setObj,Sem.run,h]
theorem j_.mark(m:Mark):j_ P (mark m) w () w:=rfl
def j_.askRoom(n:Nat):j_ P (askRoom n) w () w:=by
 unfold Go.askRoom;split
 · exact j_.mark _
 · exact j_.pure _
def cell_of{fr:Nat × Nat}(h:w.heap[B]?=sS (.cells c T fr)):w.cell? ⟨B,o,nN⟩=c[o]?:=by
 simp[World.cell?,h]
def zEu(h:w.heap[B]?=sS (.cells c T (0,0))):w.frozen? ⟨B,o,nN⟩=oK:=by
 simp[World.frozen?,h]
def Z?(B o n:Nat):(⟨B,o,nN⟩:Addr).add n=⟨B,o+n,nN⟩:=by
 unfold Addr.add;split
 · simp[*]
 · rfl
def j_.loadCellsFrom(B o:Nat):∀(vs:List Value) (i:Nat) (acc:Array Value),(∀j v,vs[j]?=sS v->w.cell? ⟨B,o+i+j,nN⟩=sS v)->
   j_ P (loadCellsFrom ⟨B,o,nN⟩ i (lN vs) acc) w (acc++vs.toArray) w
 |[],i,acc,_=>by simp[Go.loadCellsFrom];exact j_.pure _
 | v ::vs,i,acc,h=>by
   simp only[List.length_cons,Go.loadCellsFrom];refine j_.bind (a:=v) (w':=w) ?_ ?_
   · rw[Z?];exact j_.load (by simpa using h 0 v oC)
   · have:=j_.loadCellsFrom B o vs (i+1) (acc.push v) (λj u hj=>by
       have:=h (j+1) u (uM hj)
       rw[show o+(i+1)+j=o+i+(j+1)from by omega];exact this)
     have e:acc++(v::vs).toArray=acc.push v++vs.toArray:=by
       apply dV;simp
     rw[e];exact this
def j_.loadCells{B o:Nat}{vs:oP}(h:∀j v,vs[j]?=sS v->w.cell? ⟨B,o+j,nN⟩=sS v):j_ P (loadCells ⟨B,o,nN⟩ (lN vs)) w vs.toArray w:=by
 have:=j_.loadCellsFrom (P:=P) (w:=w) B o vs 0 #[] (uM h);rw[show(#[]:Array Value)++vs.toArray=vs.toArray from by simp]at this;exact this
def j_.loadCells0(a:Addr)(w:World):j_ P (Go.loadCells a 0) w (#[]:Array Value) w:=by
 unfold Go.loadCells Go.loadCellsFrom;exact j_.pure _
def z_:List α->Nat->List α->List α
 |cs,_,[]=>cs
 |cs,o,v::vs=>z_ (cs.set o v) (o+1) vs
def CP:∀(vs cs:List α) (o:Nat),(z_ cs o vs).length=lN cs
 |[],cs,o=>rfl
 |v::vs,cs,o=>by simp[z_,CP vs]
def World.cellsAt(w:World)(B:Nat)(vs:oP)(T:TypeId):World:={w with heap:=w.heap.setIfInBounds B (.cells vs.toArray T (0,0))}
def setCell_eq{vs:oP}(h:w.heap[B]?=sS (.cells vs.toArray T (0,0)))(v:Value):
   w.setCell ⟨B,o,nN⟩ v=World.cellsAt w B (vs.set o v) T:=by
 have hB:B<w.heap.size:=by
   rcases aY B w.heap.size with h1|h1
   · exact h1
   · rw[bI h1]at h;cases h
 unfold World.setCell World.cellsAt;congr 1;apply Array.ext_getElem?;intro i;rw[Array.getElem?_modify];by_cases hi:B=i
 · subst hi;rw[aC rfl,h,dJ,aC hB];simp
 · rw[aB hi,bU hi]
def zzw{vs:oP}(hB:B<w.heap.size):(World.cellsAt w B vs T).heap[B]?=sS (.cells vs.toArray T (0,0)):=by
 simp[World.cellsAt,hB]
def zvS(B:Nat)(vs us:oP)(T:TypeId):World.cellsAt (World.cellsAt w B vs T) B us T=World.cellsAt w B us T:=by
 simp[World.cellsAt]
def j_.storeCells(o:Nat):∀(vs:List Value) (i:Nat) (cs:List Value) (w:World),w.heap[B]?=sS (.cells cs.toArray T (0,0))->o+i+lN vs<=lN cs->
   (∀v,v∈vs->v.one1=tT)->vs≠[]->j_ P (storeCells ⟨B,o,nN⟩ vs i) w () (World.cellsAt w B (z_ cs (o+i) vs) T)
 |[],i,cs,w,_,_,_,h0=>absurd rfl h0
 | v ::vs,i,cs,w,h,hl,h1,_=>by
   simp only[Go.storeCells];have hB:B<w.heap.size:=by
     rcases aY B w.heap.size with h1|h1
     · exact h1
     · rw[bI h1]at h;cases h
   simp only[List.length_cons]at hl;have hs:j_ P (Go.store ((⟨B,o,nN⟩:Addr).add i) v) w () (World.cellsAt w B (cs.set (o+i) v) T):=by
     rw[Z?,<-setCell_eq h];have hc:w.cell? ⟨B,o+i,nN⟩=sS cs[o+i]:=by
       rw[cell_of h];simp[aA (by omega:o+i<lN cs)]
     exact j_.store hc (zEu h) (h1 v oC)
   apply hs.bind;cases vs with
   |nil=>simp only[Go.storeCells,z_];exact j_.pure _
   | cons u us=>
     have:=j_.storeCells o (u::us) (i+1) (cs.set (o+i) v) (World.cellsAt w B (cs.set (o+i) v) T) (zzw hB)
       (by simp at hl⊢;omega) (λx hx=>h1 x (by simp[hx])) oC
     rw[zvS]at this;exact this
end
abbrev fF:=@j_.pure
abbrev fG:=@j_.bind
abbrev fP:=@j_.underlying
abbrev fe:=@j_.sizeOf
abbrev fo:=@j_.zeroValue
abbrev fu:=@j_.typeInfo
abbrev fw:=@j_.loadCells
abbrev gD:=@j_.newObj
end Go.Abs
namespace Go.Abs
variable {h ph:PH}{ρ:RM}{x:D}{a:Act}{T:TypeId}
def Same(w w':World):Prop:=w'.os=w.os/\w'.tape=w.tape/\w'.output=w.output
def Same.refl(w:World):Same w w:=⟨rfl,rfl,rfl⟩
def Same.trans{a b c:World}(h:Same a b)(k:Same b c):Same a c:=⟨k.1.trans h.1,k.2.1.trans h.2.1,k.2.2.trans h.2.2⟩
def jW:Hp->List (Nat × A_)->Hp
|m,[]=>m
|m,(b,x)::l=>jW (upd m b x) l
def spN(c:Nat):Int:=if 9<=c/\c<=13\/c=32 then 1 else 0
def Ac(P : Program) (h : PH) : Prop := ∀ g, P.globalNamed "strings.asciiSpace" = sS g -> ∃ o, h g = sS o /\ ∀ w : World, w.heap[g]? = sS o -> ∀ c, c < 256 -> w.cell? ⟨g, c, nN⟩ = sS (.int .u8 (spN c))
def Ac.mono{P:Program}{h':PH}(k:Ac P h)(le:h.le h'):Ac P h':=λg e=>by
 let⟨o,h1,h2⟩:=k g e;exact⟨o,le g o h1,h2⟩
class jE where
 ok:PH->(Nat->Prop)->World->Prop
 mono:∀{h h':PH} {F F':Nat->Prop} {w w':World},ok h F w->h.le h'->w.heap.size<=w'.heap.size->(∀B,B<w.heap.size->F B->h' B=h B/\w'.heap[B]?=w.heap[B]?/\F' B)->ok h' F' w'
 row:Nat->Option (List D)
 get:∀{h:PH} {F:Nat->Prop} {w:World} {B:Nat} {ds:List D},ok h F w->row B=sS ds->∃(vs:List Value) (T:TypeId),w.heap[B]?=sS (.cells vs.toArray T (0,0))/\lN vs=lN ds/\RepL h ds vs
@[reducible] def jE.triv:jE:=⟨λ_ _ _=>True,λ_ _ _ _=>trivial,λ_=>nN,λ_ e=>by cases e⟩
variable [jE]
def gz(P:Program)(o:Oper)(get:Nat->AV)(m:Hp)(rd:oO)(wr:oU)(v:AV):Prop:=
∀ m':Hp,(∀b,b∈rd->m' b=m b)->(∀x,x∈wr->m' x.1=m x.1)->∀(h:PH) (ρ:RM) (w:World) (a:Act),E_ h ρ m' w.heap->Ac P h->jE.ok h (jK ρ m') w->
 (∀k,Operand.tmp k∈o.op.operands->g_ h ρ (get k) (a.tmps.getD k undef))->
 ∀(next:Act->World->Prop) (Q:Exit->Act->World->Prop),
  (∀(h':PH) (ρ':RM) (w':World) (vC:Value),Step h ρ m' w.heap h' ρ' (jW m' wr) w'.heap->E_ h' ρ' (jW m' wr) w'.heap->Same w w'->g_ h' ρ' v vC->next (a.put o.dst vC) w')->
  o.wp P a w next Q
section
variable {P:Program} {o:Oper} {get:Nat->AV} {m:Hp} {rd:List Nat} {wr:List (Nat × A_)} {v:AV}
def gz.E?(H:∀m':Hp,(∀b,b∈rd->m' b=m b)->(∀x,x∈wr->m' x.1=m x.1)->∀(h:PH) (ρ:RM) (w:World) (a:Act),E_ h ρ m' w.heap->
  (∀k,Operand.tmp k∈o.op.operands->g_ h ρ (get k) (a.tmps.getD k undef))->
  ∃(h':PH) (ρ':RM) (w':World) (vC:Value),j_ P (execOp a.eval o) w (.value vC) w'/\Step h ρ m' w.heap h' ρ' (jW m' wr) w'.heap/\E_ h' ρ' (jW m' wr) w'.heap/\Same w w'/\g_ h' ρ' v vC):
  gz P o get m rd wr v:=by
 intro m' h1 h2 h ρ w a hr _ _ hg next Q hn;let⟨h',ρ',w',vC,r,s,k,e,p⟩:=H m' h1 h2 h ρ w a hr hg;unfold Oper.wp;rw[show(execOp a.eval o).run P w=.ok (.value vC) w' from r];exact hn h' ρ' w' vC s k e p
def gz.of_skip(H:∀m':Hp,(∀b,b∈rd->m' b=m b)->(∀x,x∈wr->m' x.1=m x.1)->∀(h:PH) (ρ:RM) (w:World) (a:Act),E_ h ρ m' w.heap->
  (∀k,Operand.tmp k∈o.op.operands->g_ h ρ (get k) (a.tmps.getD k undef))->
  ∃(h':PH) (ρ':RM) (w':World),j_ P (execOp a.eval o) w .skip w'/\Step h ρ m' w.heap h' ρ' (jW m' wr) w'.heap/\E_ h' ρ' (jW m' wr) w'.heap/\Same w w'):
  gz P o get m rd wr (.c (.d .any)):=by
 intro m' h1 h2 h ρ w a hr _ _ hg next Q hn;let⟨h',ρ',w',r,s,k,e⟩:=H m' h1 h2 h ρ w a hr hg;unfold Oper.wp;rw[show(execOp a.eval o).run P w=.ok .skip w' from r];exact hn h' ρ' w' undef s k e trivial
def gz.of_pureS(H:∀m':Hp,(∀b,b∈rd->m' b=m b)->∀(h:PH) (ρ:RM) (w:World) (a:Act),E_ h ρ m' w.heap->jE.ok h (jK ρ m') w->
  (∀k,Operand.tmp k∈o.op.operands->g_ h ρ (get k) (a.tmps.getD k undef))->∃vC,j_ P (execOp a.eval o) w (.value vC) w/\g_ h ρ v vC):gz P o get m rd [] v:=by
 intro m' h1 h2 h ρ w a hr _ hS hg next Q hn;let⟨vC,r,p⟩:=H m' h1 h ρ w a hr hS hg;unfold Oper.wp;rw[show(execOp a.eval o).run P w=.ok (.value vC) w from r];exact hn h ρ w vC (Step.refl _ _ _ _) hr (Same.refl w) p
def gz.Z_(H:∀m':Hp,(∀b,b∈rd->m' b=m b)->∀(h:PH) (ρ:RM) (w:World) (a:Act),E_ h ρ m' w.heap->
  (∀k,Operand.tmp k∈o.op.operands->g_ h ρ (get k) (a.tmps.getD k undef))->∃vC,j_ P (execOp a.eval o) w (.value vC) w/\g_ h ρ v vC):gz P o get m rd [] v:=
 gz.E? λm' h1 h2 h ρ w a hr hg=>
  let⟨vC,r,p⟩:=H m' h1 h ρ w a hr hg
  ⟨h,ρ,w,vC,r,Step.refl _ _ _ _,hr,Same.refl w,p⟩
end
inductive MX where
|t (k:Nat)
|k (x:D)
|a (xs:List D)
abbrev su:=List MX
abbrev sj:=List (Nat × Nat × MX)
def X(get:Nat->AV):MX->AV
|.t k=>get k
|.k x=>.c (.d x)
|.a xs=>.ag (xs.map .d)
def LX:D->Value->Bool
|.int k n,.int k' n'=>decide (k=k')&&decide (n=n')&&decide (k.min<=n)&&decide (n<=k.max)
|.bool b,.bool b'=>b==b'
|.str s,.string s'=>decide (s=s')&&decide (s.size<=zaf)
|.sl _ _ [],.slice nN 0 0=>tT
|.sc (.pointer nN),.pointer nN=>tT
|.sc .nilFunc,.nilFunc=>tT
|.sc .nilIface,.nilIface=>tT
|.sc (.map nN),.map nN=>tT
|_,_=>oK
def Vh{v:Value}(h:LX x v=tT)(ph:PH):RepD ph x v:=by
 unfold LX at h;split at h
 .simp only[aG,aI]at h;obtain⟨⟨⟨rfl,rfl⟩,h1⟩,h2⟩:=h;simp[RepD,h1,h2]
 .simp at h;simp[RepD,h]
 .simp at h;simp[RepD,h.1];rw[<-h.1];exact h.2
 .unfold RepD;exact⟨nN,0,rfl,aJ _,λ_=>rfl,oC,λ_=>⟨rfl,rfl⟩,λp hp=>(by cases hp),(by simp[RepE])⟩
 .simp[RepD]
 .simp[RepD]
 .simp[RepD]
 .simp[RepD]
 .cases h
def zQ:List D->List Value->Bool
|[],[]=>tT
|d::ds,v::vs=>LX d v&&v.one1&&zQ ds vs
|_,_=>oK
def FU:∀{ds:List D} {vs:List Value},zQ ds vs=tT->lN vs=lN ds/\∀ph,RepL ph ds vs
|[],[],_=>⟨rfl,λ_=>by simp[RepL]⟩
|d::ds,v::vs,h=>by
 simp only[zQ,aG]at h;let⟨h1,h2⟩:=FU h.2;refine⟨by simp[h1],λph=>?_⟩;simp only[RepL];exact⟨⟨h.1.2,Vh h.1.1 ph⟩,h2 ph⟩
|[],_::_,h=>by simp[zQ]at h
|_::_,[],h=>by simp[zQ]at h
def M_:MX->Operand->Bool
|.t k,.tmp k'=>k==k'
|.k x,.const v=>LX x v
|.k (.fn (.func f) []),.func f'=>f==f'
|.a xs,.const (.agg cs)=>zQ xs cs.toList
|_,_=>oK
def iV{x:MX}{o:Operand}(h:M_ x o=tT){get:Nat->AV}(hg:∀k,o=.tmp k->g_ ph ρ (get k) (a.tmps.getD k undef)):
  g_ ph ρ (X get x) (a.eval o):=by
 unfold M_ at h;split at h
 .simp at h;subst h;exact hg _ rfl
 .simp only[X,g_,m_,Act.eval];exact Vh h ph
 .simp at h;subst h;simp[X,g_,m_,RepD,RepL,Act.eval]
 next xs cs=>
  let⟨h1,h2⟩:=FU h;simp only[X,g_,Act.eval];exact⟨cs.toList,oC,uM h1,gY.of_D (h2 ph)⟩
 .cases h
def yl:List MX->List Operand->Bool
|[],[]=>tT
|x::xs,o::os=>M_ x o&&yl xs os
|_,_=>oK
def JG{get:Nat->AV}:∀{xs:List MX} {os:List Operand},yl xs os=tT->(∀k,Operand.tmp k∈os->g_ ph ρ (get k) (a.tmps.getD k undef))->
 iC ph ρ (xs.map (X get)) (os.map a.eval)
|[],[],_,_=>rfl
|x::xs,o::os,h,hg=>by
 simp only[yl,aG]at h;simp only[List.map_cons,iC];exact⟨iV h.1 (λk hk=>hg k (by simp[hk])),JG h.2 (λk hk=>hg k (by simp[hk]))⟩
|[],_::_,h,_=>by simp[yl]at h
|_::_,[],h,_=>by simp[yl]at h
def D.one:D->Bool
|.any=>oK
|.sc v=>v.one1
|_=>tT
def AC.one:AC->Bool
|.d x=>x.one
|.op _=>oK
|_=>tT
def wo:AV->Option o7
|.c x=>if x.one then sS [x]else nN
|.ag cs=>sS cs
|.a? _=>nN
def A?:List AC->Option (List D)
|[]=>sS []
|.d x::cs=>(A? cs).map (x:: ·)
|_::_=>nN
@[simp] theorem Vi(ds:oQ):A? (ds.map .d)=sS ds:=by
 induction ds with
 |nil=>rfl
 |cons d ds ih=>simp[A?,ih]
def FV:∀{cs:List AC} {ds:List D},A? cs=sS ds->cs=ds.map .d
|[],ds,h=>by simp[A?]at h;simp[<-h]
|.d x::cs,ds,h=>by
 simp only[A?,aP]at h;let⟨l,h1,h2⟩:=h;rw[<-h2,FV h1];rfl
|.ptr .. ::_,_,h=>by simp[A?]at h
|.ept .. ::_,_,h=>by simp[A?]at h
|.x_ .. ::_,_,h=>by simp[A?]at h
|.map .. ::_,_,h=>by simp[A?]at h
|.fn .. ::_,_,h=>by simp[A?]at h
|.op .. ::_,_,h=>by simp[A?]at h
def cellsD(v:AV):Option oQ:=(wo v).bind A?
def D.one_ok{v:Value}(r:RepD h x v)(h1:x.one=tT):v.one1=tT:=by
 cases x<;>simp only[D.one]at h1
 case any=>cases h1
 case int=>simp only[RepD]at r;rw[r.1];rfl
 case bool=>simp only[RepD]at r;rw[r];rfl
 case str=>simp only[RepD]at r;rw[r.1];rfl
 case sc u=>simp only[RepD]at r;rw[r];exact h1
 case sl=>simp only[RepD]at r;let⟨a,cap,e,_⟩:=r;rw[e];rfl
 case rp=>simp only[RepD]at r;let⟨a,cap,e,_⟩:=r;rw[e];rfl
 case fn=>simp only[RepD]at r;let⟨a,e,_⟩:=r;rw[e];rfl
 case ifc=>simp only[RepD]at r;let⟨a,e,_⟩:=r;rw[e];rfl
 case mp=>simp only[RepD]at r;let⟨a,_,_,e,_⟩:=r;rw[e];rfl
def AC.one_ok{x:AC}{v:Value}(r:m_ h ρ x v)(h1:x.one=tT):v.one1=tT:=by
 cases x<;>simp only[AC.one]at h1
 case d=>simp only[m_]at r;exact D.one_ok r h1
 case ptr=>simp only[m_]at r;let⟨a,_,e⟩:=r;rw[e];rfl
 case ept=>simp only[m_]at r;let⟨a,_,e⟩:=r;rw[e];rfl
 case x_=>simp only[m_]at r;let⟨p,a,_,e,_⟩:=r;rw[e];rfl
 case map=>simp only[m_]at r;let⟨a,_,e⟩:=r;rw[e];rfl
 case fn=>simp only[m_]at r;let⟨a,e,_⟩:=r;rw[e];rfl
 case op=>cases h1
def zBY{v:Value}(h:v.one1=tT):v.cells=#[v]:=by cases v<;>simp_all[Value.one1,Value.cells]
def gY.one:∀{cs:List AC} {vs:List Value},gY h ρ cs vs->lN vs=lN cs->∀v,v∈vs->v.one1=tT
|[],[],_,_,v,hv=>by cases hv
|[],_::_,_,e,_,_=>by simp at e
|_::_,[],r,_,_,_=>by simp[gY]at r
|c::cs,u::vs,r,e,v,hv=>by
 simp only[gY]at r;cases aM.1 hv with
 |inl e1=>rw[e1];exact r.1.1
 |inr e1=>exact gY.one r.2 (uM e) v e1
def H9{v:AV}{x:Value}{cs:o7}(r:g_ h ρ v x)(e:wo v=sS cs):∃vs:oP,x.cells=vs.toArray/\lN vs=lN cs/\gY h ρ cs vs:=by
 cases v with
 | c y=>
  simp only[wo]at e;split at e
  next h1=>
   cases e;simp only[g_]at r;have hx:=AC.one_ok r h1;exact⟨[x],by rw[zBY hx],rfl,by simp[gY,hx,r]⟩
  .cases e
 |ag ds=>
  simp only[wo]at e;cases e;simp only[g_]at r;let⟨vs,e1,e2,e3⟩:=r;exact⟨vs,by rw[e1];rfl,e2,e3⟩
 |a? _=>cases e
def Ov{v:AV}{x:Value}{ds:oQ}(r:g_ h ρ v x)(e:cellsD v=sS ds):∃vs:oP,x.cells=vs.toArray/\lN vs=lN ds/\RepL h ds vs:=by
 unfold cellsD at e;cases hc:wo v with
 |none=>rw[hc]at e;cases e
 |some cs=>
  rw[hc]at e;let⟨vs,e1,e2,e3⟩:=H9 r hc;have:=FV e;subst this;exact⟨vs,e1,uM e2,gY.to_D e3⟩
def BH:TypeDesc->Bool
|.struct _|.array _ _=>tT
|_=>oK
def CQ(P:Program)(T:TypeId):Option (Bool × Nat):=
 match P.underlying T,P.info? T with
 |some d,sS i=>sS (BH d,i.size)
 |_,_=>nN
def Vj{P:Program}{b:Bool}{n:Nat}(h:CQ P T=sS (b,n)):∃d i,P.underlying T=sS d/\P.info? T=sS i/\BH d=b/\i.size=n:=by
 unfold CQ at h;split at h
 next d i h1 h2=>
  cases h;exact⟨d,i,h1,h2,rfl,rfl⟩
 .cases h
def j_.isAgg{P:Program}{w:World}{d:TypeDesc}(h:P.underlying T=sS d):j_ P (isAgg T) w (BH d) w:=by
 unfold Go.isAgg;refine(fP h).bind ?_;cases d<;>exact fF _
abbrev fZ:=@Same.refl
end Go.Abs
namespace Go.Abs
variable {op:BinOp}{k:IntKind}{d:D}{a b:Int}
section
variable {P:Program} {w:World}
def zw1(op:BinOp) (t:TypeId) (x y:Operand) (a b:Value) (h1:¬(a=.nilIface/\b=.nilIface)) (h2:∀c d,¬(a=.agg c/\b=.agg d)):j_ P (eqGuard op t x y a b) w () w:=by
 cases op<;>first
   |exact fF ()
   |(cases a<;>first
       |exact fF ()
       |(cases b<;>first
           |exact fF ()
           |exact absurd ⟨rfl,rfl⟩ h1
           |exact absurd ⟨rfl,rfl⟩ (h2 _ _)))
def LY(k:IntKind)(n:Int):k.min<=k.wrap n/\k.wrap n<=k.max:=by
 cases k<;>simp only[IntKind.wrap,IntKind.min,IntKind.max,IntKind.bits,IntKind.signed]<;>constructor<;>simp<;>(try split)<;>omega
def LZ{n:Int}(h1:k.min<=n)(h2:n<=k.max):k.wrap n=n:=by
 cases k<;>simp only[IntKind.wrap,IntKind.min,IntKind.max,IntKind.bits,IntKind.signed]at* <;>simp at* <;>(try split)<;>omega
def Hd(op:BinOp)(k:IntKind)(a b:Int):Option D:=
 match op with
 |.add=>sS (.int k (k.wrap (a+b)))
 |.sub=>sS (.int k (k.wrap (a-b)))
 |.mul=>sS (.int k (k.wrap (a*b)))
 |.and=>sS (.int k (k.wrap (BitVec.ofInt k.bits a&&&BitVec.ofInt k.bits b).toNat))
 |.or=>sS (.int k (k.wrap (BitVec.ofInt k.bits a|||BitVec.ofInt k.bits b).toNat))
 |.xor=>sS (.int k (k.wrap (BitVec.ofInt k.bits a^^^BitVec.ofInt k.bits b).toNat))
 |.andNot=>sS (.int k (k.wrap (BitVec.ofInt k.bits a&&& ~~~(BitVec.ofInt k.bits b)).toNat))
 |.eql=>sS (.bool (decide (a=b)))
 |.neq=>sS (.bool (decide (¬a=b)))
 |.lss=>sS (.bool (decide (a<b)))
 |.leq=>sS (.bool (decide (a<=b)))
 |.gtr=>sS (.bool (decide (b<a)))
 |.geq=>sS (.bool (decide (b<=a)))
 |.shr=>if 0<=b/\k.min<=a.fdiv (2^min b.toNat k.bits)/\a.fdiv (2^min b.toNat k.bits)<=k.max then sS (.int k (a.fdiv (2^min b.toNat k.bits)))else nN
 |_=>nN
def zJZ(h:Hd op k a b=sS d)(T:TypeId)(ph:PH):∃v,j_ P (binOp op T (.int k a) (.int k b)) w v w/\RepD ph d v:=by
 have key:∀(msg:String) (x:Sem Value),binOp op T (.int k a) (.int k b)=(if k≠k then stuck msg else x)->∀v,x=Pure.pure v->j_ P (binOp op T (.int k a) (.int k b)) w v w:=by
   intro msg x hx v hv;rw[hx,aB oC,hv];exact fF _
 cases op <;>simp only[Hd]at h<;>first
   |(cases h;done)
   | (split at h
      · rename_i hh;cases h;refine⟨.int k (a.fdiv (2^min b.toNat k.bits)),?_,?_⟩
        · show j_ P (Op.shift .shr k a k b) w _ w;unfold Op.shift;rw[aB oM];exact fF _
        · unfold RepD;exact⟨rfl,hh.2⟩
      · cases h)
   | (cases h
      refine⟨_,key _ _ rfl _ rfl,?_⟩;unfold RepD
      exact⟨rfl,LY _ _⟩)
   | (cases h
      refine⟨_,key _ _ rfl _ rfl,?_⟩;unfold RepD;apply dM Value.bool;rw[dh]
      try simp)
def zIF(hop:op=.quo\/op=.rem) (hb:b≠0) (ha:k.min<=a/\a<=k.max) (hb':k.min<=b/\b<=k.max) (T:TypeId) (ph:PH):
   ∃v,j_ P (binOp op T (.int k a) (.int k b)) w v w/\RepD ph (.int k (if op=.quo then k.wrap (a.tdiv b)else a.tmod b)) v:=by
 have key:∀(msg:String) (x:Sem Value),binOp op T (.int k a) (.int k b)=(if k≠k then stuck msg else x)->∀v,j_ P x w v w->j_ P (binOp op T (.int k a) (.int k b)) w v w:=by
   intro msg x hx v hv;rw[hx,aB oC];exact hv
 rcases hop with rfl|rfl
 · refine⟨_,key _ _ rfl _ (by unfold Op.intDiv;rw[aB hb];exact fF _),?_⟩;rw[aC rfl];unfold RepD;exact⟨rfl,LY _ _⟩
 · refine⟨_,key _ _ rfl _ (by unfold Op.intDiv;rw[aB hb];exact fF _),?_⟩;rw[aB oD];unfold RepD;refine⟨rfl,?_,?_⟩
   · by_cases h0:0<=a
     · have:=eU b h0;have hm:k.min<=0:=by cases k<;>decide
       omega
     · have h1:(-a).tmod b= -(a.tmod b):=Int.neg_tmod ..;have h2:=eU (a:= -a) b oM;have h3:(-a).tmod b<= -a:=by
         have e:((-a).toNat:Int)= -a:=oM;have:=Int.natAbs_tmod (-a) b;have h4:((-a).tmod b).natAbs<=(-a).natAbs:=by rw[this];exact Nat.mod_le _ _
         omega
       omega
   · by_cases h0:0<=a
     · have h2:=eU b h0;have:=Int.natAbs_tmod a b;have h4:(a.tmod b).natAbs<=a.natAbs:=by rw[this];exact Nat.mod_le _ _
       omega
     · have h1:(-a).tmod b= -(a.tmod b):=Int.neg_tmod ..;have h2:=eU (a:= -a) b oM;have hm:0<=k.max:=by cases k<;>decide
       omega
def toList_inj(a b:fD):(a.toList==b.toList)=decide (a=b):=by
 rw[dh];simp only[ae,aI];constructor
 · intro h;rw[ByteArray.toList_eq,ByteArray.toList_eq]at h;exact Go.WideShapes.bytes_inj h
 · intro h;rw[h]
def Hf(op:BinOp)(a b:fD):Option D:=
 match op with
 |.eql=>sS (.bool (decide (a=b)))
 |.neq=>sS (.bool (!decide (a=b)))
 |.lss=>sS (.bool (Op.bytesLess a.data.toList b.data.toList))
 |.leq=>sS (.bool (Op.bytesLess a.data.toList b.data.toList||decide (a=b)))
 |.gtr=>sS (.bool (!(Op.bytesLess a.data.toList b.data.toList||decide (a=b))))
 |.geq=>sS (.bool (!Op.bytesLess a.data.toList b.data.toList))
 |_=>nN
def zJ0{a b:fD}(h:Hf op a b=sS d)(T:TypeId)(ph:PH):∃v,j_ P (binOp op T (.string a) (.string b)) w v w/\RepD ph d v:=by
 have key:binOp op T (.string a) (.string b)=Op.stringOp op a b:=by cases op<;>rfl
 rw[key];unfold Op.stringOp;rw[toList_inj,ByteArray.toList_eq,ByteArray.toList_eq]
 cases op<;>simp only[Hf]at h<;>first
   |(cases h;done)
   |(cases h;exact⟨_,fF _,rfl⟩)
def yD{a b:fD}(h:a.size+b.size<=zaf)(T:TypeId)(ph:PH):∃v,j_ P (binOp .add T (.string a) (.string b)) w v w/\RepD ph (.str (a++b)) v:=by
 refine⟨.string (a++b),?_,?_⟩
 · show j_ P (Op.stringOp .add a b) w _ w;unfold Op.stringOp;simp only;rw[aB]
   · exact fF _
   · unfold zaf at h;have:IntKind.i64.max=9223372036854775807:=by decide
     rw[this];simp only[gt_iff_lt,Int.not_lt];omega
 · unfold RepD;exact⟨rfl,by rw[ax];exact h⟩
def Hg(op:BinOp)(a b:Bool):Option D:=
 match op with
 |.eql=>sS (.bool (a==b))
 |.neq=>sS (.bool (!(a==b)))
 |_=>nN
def zJ1{a b:Bool}(h:Hg op a b=sS d){T:TypeId}(hT:P.underlying T=sS .bool)(ph:PH):∃v,j_ P (binOp op T (.bool a) (.bool b)) w v w/\RepD ph d v:=by
 have eq:j_ P (Op.equal T (.bool a) (.bool b)) w (a==b) w:=by
   unfold Op.equal Op.maxDepth Op.equalIn;refine(fP hT).bind ?_;exact fF _
 cases op<;>simp only[Hg]at h<;>first
   |(cases h;done)
   |(cases h;exact⟨_,eq.bind (fF _),rfl⟩)
end
end Go.Abs
namespace Go.Abs
variable {blk:A_}{w:Heap}
mutual
def AC.N_(f:Nat->Nat):AC->AC
|.d x=>.d x
|.ptr b off=>.ptr (f b) off
|.ept s b i off=>.ept s (f b) i off
|.x_ s b off len=>.x_ s (f b) off len
|.map b=>.map (f b)
|.fn g k_=>.fn g (AC.b? f k_)
|.op r=>.op r
def AC.b?(f:Nat->Nat):List AC->List AC
|[]=>[]
|c::cs=>c.N_ f::AC.b? f cs
end
mutual
def AC.lt(n:Nat):AC->Bool
|.d _=>tT
|.ptr b _=>decide (b<n)
|.ept _ b _ _=>decide (b<n)
|.x_ _ b _ _=>decide (b<n)
|.map b=>decide (b<n)
|.fn _ k_=>AC.lts n k_
|.op _=>tT
def AC.lts(n:Nat):List AC->Bool
|[]=>tT
|c::cs=>c.lt n&&AC.lts n cs
end
mutual
def AV.N_(f:Nat->Nat):AV->AV
|.c x=>.c (x.N_ f)
|.ag cs=>.ag (AC.b? f cs)
|.a? vs=>.a? (AV.b? f vs)
def AV.b?(f:Nat->Nat):List AV->List AV
|[]=>[]
|v::vs=>v.N_ f::AV.b? f vs
end
mutual
def AV.lt(n:Nat):AV->Bool
|.c x=>x.lt n
|.ag cs=>AC.lts n cs
|.a? vs=>AV.lts n vs
def AV.lts(n:Nat):List AV->Bool
|[]=>tT
|v::vs=>v.lt n&&AV.lts n vs
end
def A_.N_(f:Nat->Nat):A_->A_
|.c?=>.c?
|.dead=>.dead
|.box cs=>.box (AC.b? f cs)
|.arr s es=>.arr s (es.map (AC.b? f))
|.map es=>.map (es.map λe=>(e.1,e.2.N_ f))
|.G_ t b=>.G_ t (f b)
def A_.lt(n:Nat):A_->Bool
|.c?=>tT
|.dead=>tT
|.box cs=>AC.lts n cs
|.arr _ es=>es.all (AC.lts n)
|.map es=>es.all λe=>e.2.lt n
|.G_ _ b=>decide (b<n)
@[simp] theorem AC.rens_D(f:Nat->Nat)(ds:oQ):AC.b? f (ds.map .d)=ds.map .d:=by
 induction ds with
 |nil=>rfl
 |cons d ds ih=>simp[AC.b?,AC.N_,ih]
@[simp] theorem AC.lts_D(n:Nat)(ds:oQ):AC.lts n (ds.map .d)=tT:=by
 induction ds with
 |nil=>rfl
 |cons d ds ih=>simp[AC.lts,AC.lt,ih]
def pG(f:Nat->Nat)(n:Nat)(ρ:RM):RM:=λb=>if b<n then ρ (f b)else nN
def JH{f:Nat->Nat}{n:Nat}{ρ:RM}{b:Nat}{p:Nat × Nat}(hb:b<n)(h:ρ (f b)=sS p):pG f n ρ b=sS p:=by
 unfold pG;rw[aC hb];exact h
section
variable {h:PH} {ρ:RM} {f:Nat->Nat} {n:Nat}
mutual
def m_.N_:∀(x:AC) (v:Value),x.lt n=tT->m_ h ρ (x.N_ f) v->m_ h (pG f n ρ) x v
|.d x,v,_,r=>by simpa only[AC.N_,m_]using r
|.ptr b off,v,hl,r=>by
 simp only[AC.lt,aI]at hl;simp only[AC.N_,m_]at r⊢;let⟨p,h1,h2⟩:=r;exact⟨p,JH hl h1,h2⟩
|.ept s b i off,v,hl,r=>by
 simp only[AC.lt,aI]at hl;simp only[AC.N_,m_]at r⊢;let⟨p,h1,h2⟩:=r;exact⟨p,JH hl h1,h2⟩
|.x_ s b off len,v,hl,r=>by
 simp only[AC.lt,aI]at hl;simp only[AC.N_,m_]at r⊢;let⟨p,a,h1,h2⟩:=r;exact⟨p,a,JH hl h1,h2⟩
|.map b,v,hl,r=>by
 simp only[AC.lt,aI]at hl;simp only[AC.N_,m_]at r⊢;let⟨p,h1,h2⟩:=r;exact⟨p,JH hl h1,h2⟩
| .fn g k_,v,hl,r=>by
 simp only[AC.lt]at hl;simp only[AC.N_,m_]at r⊢;let⟨vs,h1,h2,h3⟩:=r;have e:(AC.b? f k_).length=lN k_:=by
  have:∀(cs:List AC),(AC.b? f cs).length=lN cs:=by
   intro cs;induction cs with
   |nil=>rfl
   |cons c cs ih=>simp[AC.b?,ih]
  exact this k_
 exact⟨vs,h1,by rw[h2,e],gY.N_ k_ vs hl h3⟩
|.op q,v,_,r=>by simpa only[AC.N_,m_]using r
def gY.N_:∀(cs:List AC) (vs:List Value),AC.lts n cs=tT->gY h ρ (AC.b? f cs) vs->gY h (pG f n ρ) cs vs
|[],_,_,_=>by simp[gY]
|_::_,[],_,r=>by simp[AC.b?,gY]at r
|c::cs,v::vs,hl,r=>by
 simp only[AC.lts,aG]at hl;simp only[AC.b?,gY]at r⊢;exact⟨⟨r.1.1,m_.N_ c v hl.1 r.1.2⟩,gY.N_ cs vs hl.2 r.2⟩
end
def AC.rens_length(cs:o7):(AC.b? f cs).length=lN cs:=by
 induction cs with
 |nil=>rfl
 |cons c cs ih=>simp[AC.b?,ih]
mutual
def g_.N_:∀(x:AV) (v:Value),x.lt n=tT->g_ h ρ (x.N_ f) v->g_ h (pG f n ρ) x v
|.c x,v,hl,r=>by
 simp only[AV.lt]at hl;simp only[AV.N_,g_]at r⊢;exact m_.N_ x v hl r
|.ag cs,v,hl,r=>by
 simp only[AV.lt]at hl;simp only[AV.N_,g_]at r⊢;let⟨vs,h1,h2,h3⟩:=r;exact⟨vs,h1,by rw[h2,AC.rens_length],gY.N_ cs vs hl h3⟩
|.a? xs,v,hl,r=>by
 simp only[AV.lt]at hl;simp only[AV.N_,g_]at r⊢;let⟨vs,h1,h2⟩:=r;exact⟨vs,h1,iC.N_ xs vs hl h2⟩
def iC.N_:∀(xs:List AV) (vs:List Value),AV.lts n xs=tT->iC h ρ (AV.b? f xs) vs->iC h (pG f n ρ) xs vs
|[],vs,_,r=>by simpa[AV.b?,iC]using r
|_::_,[],_,r=>by simp[AV.b?,iC]at r
|x::xs,v::vs,hl,r=>by
 simp only[AV.lts,aG]at hl;simp only[AV.b?,iC]at r⊢;exact⟨g_.N_ x v hl.1 r.1,iC.N_ xs vs hl.2 r.2⟩
end
def gp.N_{s:Nat}:∀(es:List (List AC)) (vs:List Value),es.all (AC.lts n)=tT->gp h ρ s (es.map (AC.b? f)) vs->gp h (pG f n ρ) s es vs
|[],_,_,_=>by simp[gp]
|e::es,vs,hl,r=>by
 simp only[List.all_cons,aG]at hl;simp only[List.map_cons,gp,AC.rens_length]at r⊢;exact⟨r.1,gY.N_ e vs hl.1 r.2.1,gp.N_ es _ hl.2 r.2.2⟩
def Y'.N_:∀(es:List (D × AV)) (ms:List MapEntry),(es.all λe=>e.2.lt n)=tT->Y' h ρ (es.map λe=>(e.1,e.2.N_ f)) ms->Y' h (pG f n ρ) es ms
|[],ms,_,r=>by simpa[Y']using r
|_::_,[],_,r=>by simp[Y']at r
|e::es,x::ms,hl,r=>by
 simp only[List.all_cons,aG]at hl;simp only[List.map_cons,Y']at r⊢;exact⟨⟨r.1.1,g_.N_ _ _ hl.1 r.1.2⟩,Y'.N_ es ms hl.2 r.2⟩
def iw.N_{p:Nat × Nat}(hl:blk.lt n=tT)(r:iw h ρ p (blk.N_ f) w):iw h (pG f n ρ) p blk w:=by
 cases blk with
 |c?=>trivial
 |dead=>trivial
 |box cs=>
  let⟨vs,T,h1,h2,h3⟩:=r;exact⟨vs,T,h1,by rw[h2,AC.rens_length],gY.N_ cs vs hl h3⟩
 |arr s es=>
  rcases r with⟨h1,h2⟩|⟨vs,T,h1,h2,h3,h4,h5⟩
  .exact .inl ⟨h1,uM h2⟩
  .exact .inr ⟨vs,T,h1,h2,uM h3,uM h4,gp.N_ es vs hl h5⟩
 |map es=>
  let⟨ms,ck,h1,h2,h3,h4⟩:=r;exact⟨ms,ck,h1,Y'.N_ es ms hl h2,h3,h4⟩
 |G_ t b=>
  simp only[A_.lt,aI]at hl;exact⟨r.1,JH hl r.2⟩
end
def Real.N_{f:Nat->Nat}{p:Nat × Nat}:Real (blk.N_ f) p↔Real blk p:=by cases blk<;>simp[A_.N_,Real]
def r_(bs:oV):Hp:=λb=>bs.getD b .c?
def Z'(l:oO):Nat->Nat:=λb=>l.getD b 0
mutual
def AC.lv(p:Nat->Bool):AC->Bool
|.d _=>tT
|.ptr b _=>p b
|.ept _ b _ _=>p b
|.x_ _ b _ _=>p b
|.map b=>p b
|.fn _ k_=>AC.lvs p k_
|.op _=>tT
def AC.lvs(p:Nat->Bool):List AC->Bool
|[]=>tT
|c::cs=>c.lv p&&AC.lvs p cs
end
mutual
def AV.lv(p:Nat->Bool):AV->Bool
|.c x=>x.lv p
|.ag cs=>AC.lvs p cs
|.a? vs=>AV.lvs p vs
def AV.lvs(p:Nat->Bool):List AV->Bool
|[]=>tT
|v::vs=>v.lv p&&AV.lvs p vs
end
def A_.lv(p:Nat->Bool):A_->Bool
|.c?=>tT
|.dead=>tT
|.box cs=>AC.lvs p cs
|.arr _ es=>es.all (AC.lvs p)
|.map es=>es.all λe=>e.2.lv p
|.G_ _ _=>oK
def AC.lvs_D(p:Nat->Bool)(ds:oQ):AC.lvs p (ds.map .d)=tT:=by
 induction ds with
 |nil=>rfl
 |cons d ds ih=>simp[AC.lvs,AC.lv,ih]
section
variable {h:PH} {ρ ρ2:RM} {f f2:Nat->Nat} {p:Nat->Bool}
def AC.rens_len(f:Nat->Nat)(cs:o7):(AC.b? f cs).length=lN cs:=by
 induction cs with
 |nil=>rfl
 |cons c cs ih=>simp[AC.b?,ih]
mutual
def m_.mv(H:∀b q,p b=tT->ρ (f b)=sS q->ρ2 (f2 b)=sS q):∀(x:AC) (v:Value),x.lv p=tT->m_ h ρ (x.N_ f) v->m_ h ρ2 (x.N_ f2) v
|.d x,v,_,r=>by simpa only[AC.N_,m_]using r
|.ptr b off,v,hl,r=>by
 simp only[AC.lv]at hl;simp only[AC.N_,m_]at r⊢;let⟨q,h1,h2⟩:=r;exact⟨q,H b q hl h1,h2⟩
|.ept s b i off,v,hl,r=>by
 simp only[AC.lv]at hl;simp only[AC.N_,m_]at r⊢;let⟨q,h1,h2⟩:=r;exact⟨q,H b q hl h1,h2⟩
|.x_ s b off len,v,hl,r=>by
 simp only[AC.lv]at hl;simp only[AC.N_,m_]at r⊢;let⟨q,a,h1,h2⟩:=r;exact⟨q,a,H b q hl h1,h2⟩
|.map b,v,hl,r=>by
 simp only[AC.lv]at hl;simp only[AC.N_,m_]at r⊢;let⟨q,h1,h2⟩:=r;exact⟨q,H b q hl h1,h2⟩
|.fn g k_,v,hl,r=>by
 simp only[AC.lv]at hl;simp only[AC.N_,m_]at r⊢;let⟨vs,h1,h2,h3⟩:=r;exact⟨vs,h1,by rw[h2,AC.rens_len,AC.rens_len],gY.mv H k_ vs hl h3⟩
|.op q,v,_,r=>by simpa only[AC.N_,m_]using r
def gY.mv(H:∀b q,p b=tT->ρ (f b)=sS q->ρ2 (f2 b)=sS q):∀(cs:List AC) (vs:List Value),AC.lvs p cs=tT->gY h ρ (AC.b? f cs) vs->gY h ρ2 (AC.b? f2 cs) vs
|[],_,_,_=>by simp[AC.b?,gY]
|_::_,[],_,r=>by simp[AC.b?,gY]at r
|c::cs,v::vs,hl,r=>by
 simp only[AC.lvs,aG]at hl;simp only[AC.b?,gY]at r⊢;exact⟨⟨r.1.1,m_.mv H c v hl.1 r.1.2⟩,gY.mv H cs vs hl.2 r.2⟩
end
mutual
def g_.mv(H:∀b q,p b=tT->ρ (f b)=sS q->ρ2 (f2 b)=sS q):∀(x:AV) (v:Value),x.lv p=tT->g_ h ρ (x.N_ f) v->g_ h ρ2 (x.N_ f2) v
|.c x,v,hl,r=>by
 simp only[AV.lv]at hl;simp only[AV.N_,g_]at r⊢;exact m_.mv H x v hl r
|.ag cs,v,hl,r=>by
 simp only[AV.lv]at hl;simp only[AV.N_,g_]at r⊢;let⟨vs,h1,h2,h3⟩:=r;exact⟨vs,h1,by rw[h2,AC.rens_len,AC.rens_len],gY.mv H cs vs hl h3⟩
|.a? xs,v,hl,r=>by
 simp only[AV.lv]at hl;simp only[AV.N_,g_]at r⊢;let⟨vs,h1,h2⟩:=r;exact⟨vs,h1,iC.mv H xs vs hl h2⟩
def iC.mv(H:∀b q,p b=tT->ρ (f b)=sS q->ρ2 (f2 b)=sS q):∀(xs:List AV) (vs:List Value),AV.lvs p xs=tT->iC h ρ (AV.b? f xs) vs->iC h ρ2 (AV.b? f2 xs) vs
|[],vs,_,r=>by simpa[AV.b?,iC]using r
|_::_,[],_,r=>by simp[AV.b?,iC]at r
|x::xs,v::vs,hl,r=>by
 simp only[AV.lvs,aG]at hl;simp only[AV.b?,iC]at r⊢;exact⟨g_.mv H x v hl.1 r.1,iC.mv H xs vs hl.2 r.2⟩
end
def gp.mv(H:∀b q,p b=tT->ρ (f b)=sS q->ρ2 (f2 b)=sS q){s:Nat}:∀(es:List (List AC)) (vs:List Value),es.all (AC.lvs p)=tT->gp h ρ s (es.map (AC.b? f)) vs->gp h ρ2 s (es.map (AC.b? f2)) vs
|[],_,_,_=>by simp[gp]
|e::es,vs,hl,r=>by
 simp only[List.all_cons,aG]at hl;simp only[List.map_cons,gp,AC.rens_len]at r⊢;exact⟨r.1,gY.mv H e vs hl.1 r.2.1,gp.mv H es _ hl.2 r.2.2⟩
def Y'.mv(H:∀b q,p b=tT->ρ (f b)=sS q->ρ2 (f2 b)=sS q):∀(es:List (D × AV)) (ms:List MapEntry),(es.all λe=>e.2.lv p)=tT->Y' h ρ (es.map λe=>(e.1,e.2.N_ f)) ms->Y' h ρ2 (es.map λe=>(e.1,e.2.N_ f2)) ms
|[],ms,_,r=>by simpa[Y']using r
|_::_,[],_,r=>by simp[Y']at r
|e::es,x::ms,hl,r=>by
 simp only[List.all_cons,aG]at hl;simp only[List.map_cons,Y']at r⊢;exact⟨⟨r.1.1,g_.mv H _ _ hl.1 r.1.2⟩,Y'.mv H es ms hl.2 r.2⟩
def iw.mv(H:∀b q,p b=tT->ρ (f b)=sS q->ρ2 (f2 b)=sS q){q:Nat × Nat}(hl:blk.lv p=tT)(r:iw h ρ q (blk.N_ f) w):iw h ρ2 q (blk.N_ f2) w:=by
 cases blk with
 |c?=>trivial
 |dead=>trivial
 |box cs=>
  let⟨vs,T,h1,h2,h3⟩:=r;exact⟨vs,T,h1,by rw[h2,AC.rens_len,AC.rens_len],gY.mv H cs vs hl h3⟩
 |arr s es=>
  rcases r with⟨h1,h2⟩|⟨vs,T,h1,h2,h3,h4,h5⟩
  .exact .inl ⟨h1,uM h2⟩
  .exact .inr ⟨vs,T,h1,h2,uM h3,uM h4,gp.mv H es vs hl h5⟩
 |map es=>
  let⟨ms,ck,h1,h2,h3,h4⟩:=r;exact⟨ms,ck,h1,Y'.mv H es ms hl h2,h3,h4⟩
 |G_ t b=>cases hl
end
mutual
def AC.ren_id:∀x:AC,x.N_ id=x
|.d _=>rfl
|.ptr _ _=>rfl
|.ept _ _ _ _=>rfl
|.x_ _ _ _ _=>rfl
|.map _=>rfl
|.fn g k_=>by simp[AC.N_,AC.rens_id k_]
|.op _=>rfl
def AC.rens_id:∀x:List AC,AC.b? id x=x
|[]=>rfl
|c::cs=>by simp[AC.b?,AC.ren_id c,AC.rens_id cs]
end
mutual
def AV.ren_id:∀x:AV,x.N_ id=x
|.c x=>by simp[AV.N_,AC.ren_id]
|.ag cs=>by simp[AV.N_,AC.rens_id]
|.a? vs=>by simp[AV.N_,AV.rens_id vs]
def AV.rens_id:∀x:List AV,AV.b? id x=x
|[]=>rfl
|x::xs=>by simp[AV.b?,AV.ren_id x,AV.rens_id xs]
end
def A_.ren_id(x:A_):x.N_ id=x:=by
 cases x with
 |c?=>rfl
 |dead=>rfl
 |box cs=>simp[A_.N_,AC.rens_id]
 |arr s es=>
  have:(AC.b? id)=id:=funext λx=>AC.rens_id x;simp[A_.N_,this]
 |map es=>
  have:(λe:D × AV=>(e.1,e.2.N_ id))=id:=funext λx=>by simp[AV.ren_id]
  simp[A_.N_,this]
 |G_ t b=>rfl
def S_:Nat->Nat->List Nat
|_,0=>[]
|n,d+1=>n::S_ (n+1) d
def xq(m:Hp):Nat->Nat->Prop
|_,0=>True
|n,d+1=>m n=.c?/\xq m (n+1) d
def ng(f:Nat->Nat):List Nat->List A_->List (Nat × A_)
|j::js,b::bs=>(j,b.N_ f)::ng f js bs
|_,_=>[]
def p8(m:Hp)(f:Nat->Nat):List Nat->List A_->Prop
|[],[]=>True
|j::js,b::bs=>m j=b.N_ f/\p8 m f js bs
|_,_=>False
def live(bs:oV)(b:Nat):Bool:=match bs[b]? with
|some .dead|some .c?|none=>oK
|some _=>tT
end Go.Abs
