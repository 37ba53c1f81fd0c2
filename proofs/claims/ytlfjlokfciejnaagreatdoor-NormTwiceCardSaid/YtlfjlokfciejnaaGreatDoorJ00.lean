/- Texts of ours, joined and written short by a program of ours. -/
import Derived.Orders
import GoSem.Dispatch
import Derived.Lib.Bytealg
import Derived.WideShapes
set_option maxRecDepth 20000
set_option maxHeartbeats 4000000
set_option linter.all false
namespace Go
abbrev aA:=@List.getElem?_eq_getElem
abbrev aB:=@if_neg
abbrev aC:=@if_pos
abbrev aD:=@Bool.and_eq_true
abbrev aF:=@List.take_of_length_le
abbrev aG:=@List.drop_eq_getElem_cons
abbrev aH:=@List.getD_eq_getElem?_getD
abbrev aI:=@decide_eq_true_eq
abbrev aJ:=@List.take_succ_eq_append_getElem
abbrev aK:=@Bool.not_eq_true
abbrev aL:=@List.mem_singleton
abbrev aM:=@List.mem_cons
abbrev aN:=@Nat.le_refl
abbrev aO:=@List.drop_length
abbrev aP:=@Eq.refl
abbrev aQ:=@List.mem_append
abbrev aR:=@List.getElem?_eq_none
abbrev aS:=@List.getElem_mem
abbrev aT:=@List.length_eq_zero_iff
abbrev aU:=@List.length_map
abbrev aV:=@Option.map_eq_some_iff
abbrev aW:=@Nat.lt_or_ge
abbrev aX:=@List.length_append
abbrev aY:=@beq_iff_eq
abbrev aZ:=@Array.getD_eq_getD_getElem?
abbrev aa:=@List.all_eq_true
abbrev ae:=@Bool.false_eq_true
abbrev af:=@List.mem_of_getElem?
abbrev ah:=@Option.some.injEq
abbrev ai:=@List.mem_map
abbrev aj:=@Array.getElem?_eq_none
abbrev ak:=@Nat.le_trans
abbrev au:=@Array.toArray_toList
abbrev ax:=@ByteArray.size_append
abbrev ay:=@Nat.add_mul
abbrev az:=@Int.toNat_natCast
abbrev bB:=@Classical.byContradiction
abbrev bC:=@List.mem_filter
abbrev bD:=@List.getElem?_drop
abbrev bE:=@Bool.not_eq_true'
abbrev bF:=@Option.isSome_iff_exists
abbrev bG:=@List.drop_of_length_le
abbrev bH:=@Array.getElem?_eq_getElem
abbrev bI:=@List.length_take
abbrev bJ:=@List.map_map
abbrev bK:=@Option.some.inj
abbrev bL:=@List.append_nil
abbrev bM:=@List.getElem_of_mem
abbrev bN:=@List.pairwise_cons
abbrev bO:=@List.map_congr_left
abbrev bP:=@Nat.zero_mul
abbrev bQ:=@Array.getElem?_setIfInBounds_ne
abbrev bR:=@List.drop_drop
abbrev bS:=@List.take_length
abbrev bU:=@Prod.mk.injEq
abbrev bV:=@List.length_filter_le
abbrev bW:=@List.mem_of_mem_take
abbrev bX:=@Nat.mul_le_mul_right
abbrev bY:=@decide_eq_false_iff_not
abbrev bZ:=@Nat.one_mul
abbrev bf:=@List.nodup_cons
abbrev bg:=@List.ext_getElem?
abbrev bi:=@Nat.add_sub_cancel_left
abbrev bn:=@List.nodup_append
abbrev bu:=@Array.length_toList
abbrev bv:=@Array.ext'
abbrev bz:=@List.getElem?_append_right
abbrev cB:=@Array.getElem?_setIfInBounds_self
abbrev cO:=@List.getElem?_append_left
abbrev cZ:=@List.pairwise_iff_getElem
abbrev cu:=@Bool.or_eq_true
abbrev cz:=@List.not_mem_nil
abbrev dA:=@List.pairwise_append
abbrev dC:=@Nat.add_comm
abbrev dD:=@List.range_eq_range'
abbrev dE:=@List.any_eq_false
abbrev dF:=@List.filter_append
abbrev dG:=@Array.getElem?_replicate
abbrev dH:=@Option.bind_eq_some_iff
abbrev dI:=@List.drop_append_of_le_length
abbrev dJ:=@List.length_drop
abbrev dK:=@Nat.zero_le
abbrev dL:=@congrArg
abbrev dM:=@List.mem_of_mem_drop
abbrev dN:=@Bool.eq_iff_iff
abbrev dO:=@List.contains_iff_mem
abbrev dP:=@not_or
abbrev dQ:=@List.filter_cons
abbrev dR:=@List.range'_succ
abbrev dS:=@Array.mapM_eq_mapM_toList
abbrev dU:=@List.mem_map_of_mem
abbrev dV:=@List.cons.injEq
abbrev dW:=@UInt8.toNat_inj
abbrev dX:=@List.getElem?_take
abbrev dY:=@Nat.lt_of_lt_of_le
abbrev dZ:=@Array.empty_append
abbrev d9:=@List.drop_eq_nil_of_le
abbrev df:=@List.append_assoc
abbrev dh:=@List.filter_eq_nil_iff
abbrev di:=@Nat.sub_zero
abbrev dx:=@Nat.min_self
abbrev dz:=@List.cons_lt_cons_iff
abbrev eB:=@Array.getElem?_toList
abbrev eF:=@List.take_append_drop
abbrev eG:=@List.getElem?_toArray
abbrev eH:=@Nat.le_add_right
abbrev eO:=@List.mem_flatMap
abbrev eP:=@Bool.false_or
abbrev eQ:=@or_false
abbrev eT:=@Int.tmod_nonneg
abbrev eU:=@UInt8.lt_irrefl
abbrev eY:=@decide_eq_false
abbrev eZ:=@Bool.true_or
abbrev fA:=@decide_eq_true
abbrev fB:=@List.map_set
abbrev fC:=ByteArray
def Value.one1:Value->Bool
 |.agg _|.tuple _=>false
 |_=>true
end Go
namespace Go.Abs
abbrev PH:=Nat->Option Obj
abbrev RM:=Nat->Option (Nat × Nat)
inductive D where
 |any
 |int (k:IntKind) (n:Int)
 |bool (b:Bool)
 |str (s:fC)
 |sc (v:Value)
 |sl (x:Bool) (s:Nat) (es:List (List D))
 |rp (cs:List D) (off:Nat)
 |fn (f:Fn) (caps:List D)
 |ifc (t:TypeId) (ag:Bool) (cs:List D)
inductive DV where
 |one (x:D)
 |agg (cs:List D)
 |tup (vs:List DV)
inductive AC where
 |d (x:D)
 |ptr (b off:Nat)
 |ept (s b i off:Nat)
 |msl (s b off len:Nat)
 |map (b:Nat)
 |fn (f:Fn) (caps:List AC)
 |op (r:Value->Prop)
inductive AV where
 |c (x:AC)
 |ag (cs:List AC)
 |tup (vs:List AV)
inductive Blk where
 |non
 |dead
 |box (cs:List AC)
 |arr (s:Nat) (es:List (List AC))
 |map (es:List (D × AV))
 |pin (t:Nat × Nat) (b:Nat)
abbrev Hp:=Nat->Blk
def hcells(h:PH)(B:Nat):List Value:=
 match h B with
 |some (.cells c _ _)=>c.toList
 |_=>[]
def cellsAt(h:PH):Option Addr->List Value
 |some p=>(hcells h p.block).drop p.off
 |none=>[]
def zaf:Nat:=4611686018427387904
mutual
def RepD(h:PH):D->Value->Prop
 |.any,_=>True
 |.int k n,v=>v=.int k n/\k.min<=n/\n<=k.max
 |.bool b,v=>v=.bool b
 |.str s,v=>v=.string s/\s.size<=zaf
 |.sc u,v=>v=u
 | .sl x s es,v=>∃a cap,v=.slice a es.length cap/\es.length<=cap/\(x=true->cap=es.length)/\es.length<=zaf/\
   (a=none->es=[]/\cap=0)/\(∀p,a=some p->0<cap->p.spot=none)/\RepE h s es (cellsAt h a)
 |.rp cs off,v=>∃B o,v=.pointer (some ⟨B,o+off,none⟩)/\RepL h cs ((hcells h B).drop o)
 |.fn f caps,v=>∃vs:List Value,v=.func f #[] vs.toArray/\vs.length=caps.length/\RepL h caps vs
 |.ifc t ag cs,v=>∃vs:List Value,v=.iface t (if ag then .agg vs.toArray else vs.headD undef)/\vs.length=cs.length/\(ag=false->cs.length=1)/\RepL h cs vs
def RepL(h:PH):List D->List Value->Prop
 |[],_=>True
 |_::_,[]=>False
 |d::ds,v::vs=>(v.one1=true/\RepD h d v)/\RepL h ds vs
def RepE(h:PH)(s:Nat):List (List D)->List Value->Prop
 |[],_=>True
 |e::es,vs=>e.length=s/\RepL h e vs/\RepE h s es (vs.drop s)
end
def PH.le(h h':PH):Prop:=∀B o,h B=some o->h' B=some o
def PH.le_refl(h:PH):h.le h:=fun _ _ e=>e
def PH.le_trans{a b c:PH}(h:a.le b)(k:b.le c):a.le c:=fun B o e=>k B o (h B o e)
def zzX{h h':PH}(hle:h.le h')(B:Nat):∃t,hcells h' B=hcells h B++t:=by
 unfold hcells
 cases e:h B with
 |none=>exact⟨_,by simp;rfl⟩
 |some o=>rw[hle B o e];exact⟨[],by simp⟩
def zjC{h h':PH}(hle:h.le h')(B n:Nat):∃t,(hcells h' B).drop n=(hcells h B).drop n++t:=by
 obtain⟨t,ht⟩:=zzX hle B
 rw[ht,List.drop_append]
 exact⟨_,rfl⟩
def zyc{h h':PH}(hle:h.le h')(a:Option Addr):∃t,cellsAt h' a=cellsAt h a++t:=by
 cases a with
 |none=>exact⟨[],rfl⟩
 |some p=>exact zjC hle _ _
mutual
def RepD.mono{h h':PH}(hle:h.le h'):∀(d:D) (v:Value),RepD h d v->RepD h' d v
 |.any,_,_=>by simp[RepD]
 |.int k n,_,r=>by simpa[RepD]using r
 |.bool b,_,r=>by simpa[RepD]using r
 |.str s,_,r=>by simpa[RepD]using r
 |.sc u,_,r=>by simpa[RepD]using r
 |.sl x s es,v,r=>by
  simp only[RepD]at r⊢
  obtain⟨a,cap,h1,h2,h3,h4,h5,h6,h7⟩:=r
  refine⟨a,cap,h1,h2,h3,h4,h5,h6,?_⟩
  obtain⟨t,ht⟩:=zyc hle a
  rw[ht]
  exact RepE.mono hle es _ t h7
 |.rp cs off,v,r=>by
  simp only[RepD]at r⊢
  obtain⟨B,o,h1,h2⟩:=r
  refine⟨B,o,h1,?_⟩
  obtain⟨t,ht⟩:=zjC hle B o
  rw[ht]
  exact RepL.mono hle cs _ t h2
 |.fn f caps,v,r=>by
  simp only[RepD]at r⊢
  obtain⟨vs,h1,h2,h3⟩:=r
  refine⟨vs,h1,h2,?_⟩
  simpa using RepL.mono hle caps vs [] h3
 |.ifc t ag cs,v,r=>by
  simp only[RepD]at r⊢
  obtain⟨vs,h1,h2,h3,h4⟩:=r
  refine⟨vs,h1,h2,h3,?_⟩
  simpa using RepL.mono hle cs vs [] h4
def RepL.mono{h h':PH}(hle:h.le h'):∀(ds:List D) (vs t:List Value),RepL h ds vs->RepL h' ds (vs++t)
 |[],_,_,_=>by simp[RepL]
 |d::ds,[],_,r=>by simp[RepL]at r
 |d::ds,v::vs,t,r=>by
  simp only[RepL,List.cons_append]at r⊢
  exact⟨⟨r.1.1,RepD.mono hle d v r.1.2⟩,RepL.mono hle ds vs t r.2⟩
def RepE.mono{h h':PH}(hle:h.le h'){s:Nat}:∀(es:List (List D)) (vs t:List Value),RepE h s es vs->RepE h' s es (vs++t)
 |[],_,_,_=>by simp[RepE]
 |e::es,vs,t,r=>by
  simp only[RepE]at r⊢
  refine⟨r.1,RepL.mono hle e vs t r.2.1,?_⟩
  rw[List.drop_append]
  exact RepE.mono hle es _ _ r.2.2
end
def RepL.mono'{h h':PH}(hle:h.le h'){ds:List D}{vs:List Value}(r:RepL h ds vs):RepL h' ds vs:=by
 simpa using RepL.mono hle ds vs [] r
def RepL.length{h:PH}:∀{ds:List D} {vs:List Value},RepL h ds vs->ds.length<=vs.length
 |[],_,_=>by simp
 |_::_,[],r=>by simp[RepL]at r
 |d::ds,v::vs,r=>by
  simp only[RepL]at r
  have:=RepL.length r.2
  simpa using this
def RepL.get{h:PH}:∀{ds:List D} {vs:List Value} {j:Nat} {x:D},RepL h ds vs->ds[j]?=some x->∃v,vs[j]?=some v/\v.one1=true/\RepD h x v
 |[],_,j,x,_,e=>by simp at e
 |_::_,[],_,_,r,_=>by simp[RepL]at r
 |d::ds,v::vs,0,x,r,e=>by
  simp only[RepL]at r
  simp at e
  subst e
  exact⟨v,by simp,r.1.1,r.1.2⟩
 |d::ds,v::vs,j+1,x,r,e=>by
  simp only[RepL]at r
  simp only[List.getElem?_cons_succ]at e⊢
  exact RepL.get r.2 e
def RepL.take{h:PH}:∀{ds:List D} {vs:List Value},RepL h ds vs->RepL h ds (vs.take ds.length)
 |[],_,_=>by simp[RepL]
 |_::_,[],r=>by simp[RepL]at r
 |d::ds,v::vs,r=>by
  simp only[RepL,List.length_cons,List.take_succ_cons]at r⊢
  exact⟨r.1,RepL.take r.2⟩
def RepL.drop{h:PH}:∀{ds:List D} {vs:List Value} (n:Nat),RepL h ds vs->RepL h (ds.drop n) (vs.drop n)
 |[],_,n,_=>by simp[RepL]
 |_::_,[],_,r=>by simp[RepL]at r
 |d::ds,v::vs,0,r=>by simpa using r
 |d::ds,v::vs,n+1,r=>by
  simp only[RepL]at r
  simpa using RepL.drop n r.2
def RepL.takeDs{h:PH}:∀{ds:List D} {vs:List Value} (n:Nat),RepL h ds vs->RepL h (ds.take n) vs
 |[],_,n,_=>by simp[RepL]
 |_::_,[],_,r=>by simp[RepL]at r
 |d::ds,v::vs,0,r=>by simp[RepL]
 |d::ds,v::vs,n+1,r=>by
  simp only[RepL,List.take_succ_cons]at r⊢
  exact⟨r.1,RepL.takeDs n r.2⟩
def RepE.get{h:PH}{s:Nat}:∀{es:List (List D)} {vs:List Value} {i:Nat} {e:List D},RepE h s es vs->es[i]?=some e->e.length=s/\RepL h e (vs.drop (i*s))
 |[],_,i,e,_,hi=>by simp at hi
 |e0::es,vs,0,e,r,hi=>by
  simp only[RepE]at r
  simp at hi
  subst hi
  exact⟨r.1,by simpa using r.2.1⟩
 |e0::es,vs,i+1,e,r,hi=>by
  simp only[RepE]at r
  simp only[List.getElem?_cons_succ]at hi
  have:=RepE.get r.2.2 hi
  refine⟨this.1,?_⟩
  rw[bR]at this
  have e1:s+i*s=(i+1)*s:=by rw[ay,bZ,dC]
  rw[<-e1]
  exact this.2
def RepE.drop{h:PH}{s:Nat}:∀{es:List (List D)} {vs:List Value} (n:Nat),RepE h s es vs->RepE h s (es.drop n) (vs.drop (n*s))
 |[],_,n,_=>by simp[RepE]
 |e0::es,vs,0,r=>by simpa using r
 |e0::es,vs,n+1,r=>by
  simp only[RepE]at r
  have:=RepE.drop n r.2.2
  rw[bR]at this
  have e1:s+n*s=(n+1)*s:=by rw[ay,bZ,dC]
  rw[<-e1]
  simpa using this
def RepE.take{h:PH}{s:Nat}:∀{es:List (List D)} {vs:List Value} (n:Nat),RepE h s es vs->RepE h s (es.take n) vs
 |[],_,n,_=>by simp[RepE]
 |e0::es,vs,0,r=>by simp[RepE]
 |e0::es,vs,n+1,r=>by
  simp only[RepE,List.take_succ_cons]at r⊢
  exact⟨r.1,r.2.1,RepE.take n r.2.2⟩
def RepE.total{h:PH}{s:Nat}:∀{es:List (List D)} {vs:List Value},RepE h s es vs->es.length*s<=vs.length
 |[],_,_=>by simp
 |e0::es,vs,r=>by
  simp only[RepE]at r
  have h1:=RepL.length r.2.1
  have h2:=RepE.total r.2.2
  simp only[List.length_drop]at h2
  simp only[List.length_cons,ay,bZ]
  by_cases hs:s<=vs.length
  ·omega
  ·omega
def RepL.append{h:PH}:∀{ds:List D} {vs:List Value} {ds':List D} {vs':List Value},RepL h ds vs->vs.length=ds.length->RepL h ds' vs'->RepL h (ds++ds') (vs++vs')
 |[],[],_,_,_,_,r=>by simpa using r
 |[],_::_,_,_,_,e,_=>by simp at e
 |_::_,[],_,_,r,_,_=>by simp[RepL]at r
 |d::ds,v::vs,ds',vs',r,e,r'=>by
  simp only[RepL,List.cons_append]at r⊢
  exact⟨r.1,RepL.append r.2 (by simpa using e) r'⟩
mutual
def RepC(h:PH)(ρ:RM):AC->Value->Prop
 |.d x,v=>RepD h x v
 |.ptr b off,v=>∃p,ρ b=some p/\v=.pointer (some ⟨p.1,off,none⟩)
 |.ept s b i off,v=>∃p,ρ b=some p/\v=.pointer (some ⟨p.1,i*s+off,none⟩)
 |.msl s b off len,v=>∃p a,ρ b=some p/\v=.slice a len (p.2-off)/\off+len<=p.2/\(off<p.2->a=some ⟨p.1,off*s,none⟩)/\(∀q,a=some q->0<p.2-off->q.spot=none)
 |.map b,v=>∃p,ρ b=some p/\v=.map (some p.1)
 |.fn f caps,v=>∃vs:List Value,v=.func f #[] vs.toArray/\vs.length=caps.length/\zae h ρ caps vs
 |.op r,v=>r v
def zae(h:PH)(ρ:RM):List AC->List Value->Prop
 |[],_=>True
 |_::_,[]=>False
 |c::cs,v::vs=>(v.one1=true/\RepC h ρ c v)/\zae h ρ cs vs
end
mutual
def RepV(h:PH)(ρ:RM):AV->Value->Prop
 |.c x,v=>RepC h ρ x v
 |.ag cs,v=>∃vs:List Value,v=.agg vs.toArray/\vs.length=cs.length/\zae h ρ cs vs
 |.tup xs,v=>∃vs:List Value,v=.tuple vs.toArray/\zas h ρ xs vs
def zas(h:PH)(ρ:RM):List AV->List Value->Prop
 |[],vs=>vs=[]
 |_::_,[]=>False
 |x::xs,v::vs=>RepV h ρ x v/\zas h ρ xs vs
end
def zal(h:PH)(ρ:RM)(s:Nat):List (List AC)->List Value->Prop
 |[],_=>True
 |e::es,vs=>e.length=s/\zae h ρ e vs/\zal h ρ s es (vs.drop s)
mutual
def zaP(h:PH):DV->Value->Prop
 |.one x,v=>RepD h x v
 |.agg cs,v=>∃vs:List Value,v=.agg vs.toArray/\vs.length=cs.length/\RepL h cs vs
 |.tup xs,v=>∃vs:List Value,v=.tuple vs.toArray/\zax h xs vs
def zax(h:PH):List DV->List Value->Prop
 |[],vs=>vs=[]
 |_::_,[]=>False
 |x::xs,v::vs=>zaP h x v/\zax h xs vs
end
def RM.le(ρ ρ':RM):Prop:=∀b p,ρ b=some p->ρ' b=some p
def RM.le_refl(ρ:RM):ρ.le ρ:=fun _ _ e=>e
def RM.le_trans{a b c:RM}(h:a.le b)(k:b.le c):a.le c:=fun x p e=>k x p (h x p e)
section
variable {h h':PH} {ρ ρ':RM}
mutual
def RepC.mono(hle:h.le h')(rle:ρ.le ρ'):∀(c:AC) (v:Value),RepC h ρ c v->RepC h' ρ' c v
 |.d x,v,r=>by simp only[RepC]at r⊢;exact RepD.mono hle x v r
 |.ptr b off,v,r=>by simp only[RepC]at r⊢;obtain⟨p,h1,h2⟩:=r;exact⟨p,rle _ _ h1,h2⟩
 |.ept s b i off,v,r=>by simp only[RepC]at r⊢;obtain⟨p,h1,h2⟩:=r;exact⟨p,rle _ _ h1,h2⟩
 |.msl s b off len,v,r=>by simp only[RepC]at r⊢;obtain⟨p,a,h1,h2⟩:=r;exact⟨p,a,rle _ _ h1,h2⟩
 |.map b,v,r=>by simp only[RepC]at r⊢;obtain⟨p,h1,h2⟩:=r;exact⟨p,rle _ _ h1,h2⟩
 |.fn f caps,v,r=>by
  simp only[RepC]at r⊢
  obtain⟨vs,h1,h2,h3⟩:=r
  exact⟨vs,h1,h2,zae.mono hle rle caps vs h3⟩
 |.op q,v,r=>by simpa only[RepC]using r
def zae.mono(hle:h.le h')(rle:ρ.le ρ'):∀(cs:List AC) (vs:List Value),zae h ρ cs vs->zae h' ρ' cs vs
 |[],_,_=>by simp[zae]
 |_::_,[],r=>by simp[zae]at r
 |c::cs,v::vs,r=>by
  simp only[zae]at r⊢
  exact⟨⟨r.1.1,RepC.mono hle rle c v r.1.2⟩,zae.mono hle rle cs vs r.2⟩
end
mutual
def RepV.mono(hle:h.le h')(rle:ρ.le ρ'):∀(x:AV) (v:Value),RepV h ρ x v->RepV h' ρ' x v
 |.c x,v,r=>by simp only[RepV]at r⊢;exact RepC.mono hle rle x v r
 |.ag cs,v,r=>by
  simp only[RepV]at r⊢
  obtain⟨vs,h1,h2,h3⟩:=r
  exact⟨vs,h1,h2,zae.mono hle rle cs vs h3⟩
 |.tup xs,v,r=>by
  simp only[RepV]at r⊢
  obtain⟨vs,h1,h2⟩:=r
  exact⟨vs,h1,zas.mono hle rle xs vs h2⟩
def zas.mono(hle:h.le h')(rle:ρ.le ρ'):∀(xs:List AV) (vs:List Value),zas h ρ xs vs->zas h' ρ' xs vs
 |[],_,r=>by simpa[zas]using r
 |_::_,[],r=>by simp[zas]at r
 |x::xs,v::vs,r=>by
  simp only[zas]at r⊢
  exact⟨RepV.mono hle rle x v r.1,zas.mono hle rle xs vs r.2⟩
end
def zal.mono(hle:h.le h')(rle:ρ.le ρ'){s:Nat}:∀(es:List (List AC)) (vs:List Value),zal h ρ s es vs->zal h' ρ' s es vs
 |[],_,_=>by simp[zal]
 |e::es,vs,r=>by
  simp only[zal]at r⊢
  exact⟨r.1,zae.mono hle rle e vs r.2.1,zal.mono hle rle es _ r.2.2⟩
def zae.get:∀{ds:List AC} {vs:List Value} {j:Nat} {x:AC},zae h ρ ds vs->ds[j]?=some x->∃v,vs[j]?=some v/\v.one1=true/\RepC h ρ x v
 |[],_,j,x,_,e=>by simp at e
 |_::_,[],_,_,r,_=>by simp[zae]at r
 |d::ds,v::vs,0,x,r,e=>by
  simp only[zae]at r
  simp at e
  subst e
  exact⟨v,by simp,r.1.1,r.1.2⟩
 |d::ds,v::vs,j+1,x,r,e=>by
  simp only[zae]at r
  simp only[List.getElem?_cons_succ]at e⊢
  exact zae.get r.2 e
def zae.length:∀{ds:List AC} {vs:List Value},zae h ρ ds vs->ds.length<=vs.length
 |[],_,_=>by simp
 |_::_,[],r=>by simp[zae]at r
 |d::ds,v::vs,r=>by
  simp only[zae]at r
  have:=zae.length r.2
  simpa using this
def zae.take:∀{ds:List AC} {vs:List Value},zae h ρ ds vs->zae h ρ ds (vs.take ds.length)
 |[],_,_=>by simp[zae]
 |_::_,[],r=>by simp[zae]at r
 |d::ds,v::vs,r=>by
  simp only[zae,List.length_cons,List.take_succ_cons]at r⊢
  exact⟨r.1,zae.take r.2⟩
def zae.drop:∀{ds:List AC} {vs:List Value} (n:Nat),zae h ρ ds vs->zae h ρ (ds.drop n) (vs.drop n)
 |[],_,n,_=>by simp[zae]
 |_::_,[],_,r=>by simp[zae]at r
 |d::ds,v::vs,0,r=>by simpa using r
 |d::ds,v::vs,n+1,r=>by
  simp only[zae]at r
  simpa using zae.drop n r.2
def zae.takeDs:∀{ds:List AC} {vs:List Value} (n:Nat),zae h ρ ds vs->zae h ρ (ds.take n) vs
 |[],_,n,_=>by simp[zae]
 |_::_,[],_,r=>by simp[zae]at r
 |d::ds,v::vs,0,r=>by simp[zae]
 |d::ds,v::vs,n+1,r=>by
  simp only[zae,List.take_succ_cons]at r⊢
  exact⟨r.1,zae.takeDs n r.2⟩
def zae.more:∀{ds:List AC} {vs:List Value} (t:List Value),zae h ρ ds vs->zae h ρ ds (vs++t)
 |[],_,t,_=>by simp[zae]
 |_::_,[],_,r=>by simp[zae]at r
 |d::ds,v::vs,t,r=>by
  simp only[zae,List.cons_append]at r⊢
  exact⟨r.1,zae.more t r.2⟩
def zae.set:∀{ds:List AC} {vs:List Value} {j:Nat} {x:AC} {v:Value},zae h ρ ds vs->v.one1=true->RepC h ρ x v->zae h ρ (ds.set j x) (vs.set j v)
 |[],_,_,_,_,_,_,_=>by simp[zae]
 |_::_,[],_,_,_,r,_,_=>by simp[zae]at r
 |d::ds,v::vs,0,x,u,r,e,q=>by
  simp only[zae,List.set_cons_zero]at r⊢
  exact⟨⟨e,q⟩,r.2⟩
 |d::ds,v::vs,j+1,x,u,r,e,q=>by
  simp only[zae,List.set_cons_succ]at r⊢
  exact⟨r.1,zae.set r.2 e q⟩
def zae.of_D:∀{ds:List D} {vs:List Value},RepL h ds vs->zae h ρ (ds.map .d) vs
 |[],_,_=>by simp[zae]
 |_::_,[],r=>by simp[RepL]at r
 |d::ds,v::vs,r=>by
  simp only[RepL]at r
  simp only[List.map_cons,zae,RepC]
  exact⟨r.1,zae.of_D r.2⟩
def zae.to_D:∀{ds:List D} {vs:List Value},zae h ρ (ds.map .d) vs->RepL h ds vs
 |[],_,_=>by simp[RepL]
 |_::_,[],r=>by simp[zae]at r
 |d::ds,v::vs,r=>by
  simp only[List.map_cons,zae,RepC]at r
  simp only[RepL]
  exact⟨r.1,zae.to_D r.2⟩
def zal.get{s:Nat}:∀{es:List (List AC)} {vs:List Value} {i:Nat} {e:List AC},zal h ρ s es vs->es[i]?=some e->e.length=s/\zae h ρ e (vs.drop (i*s))
 |[],_,i,e,_,hi=>by simp at hi
 |e0::es,vs,0,e,r,hi=>by
  simp only[zal]at r
  simp at hi
  subst hi
  exact⟨r.1,by simpa using r.2.1⟩
 |e0::es,vs,i+1,e,r,hi=>by
  simp only[zal]at r
  simp only[List.getElem?_cons_succ]at hi
  have:=zal.get r.2.2 hi
  refine⟨this.1,?_⟩
  rw[bR]at this
  have e1:s+i*s=(i+1)*s:=by rw[ay,bZ,dC]
  rw[<-e1]
  exact this.2
def zal.total{s:Nat}:∀{es:List (List AC)} {vs:List Value},zal h ρ s es vs->es.length*s<=vs.length
 |[],_,_=>by simp
 |e0::es,vs,r=>by
  simp only[zal]at r
  have h1:=zae.length r.2.1
  have h2:=zal.total r.2.2
  simp only[List.length_drop]at h2
  simp only[List.length_cons,ay,bZ]
  by_cases hs:s<=vs.length
  ·omega
  ·omega
def zal.more{s:Nat}:∀{es:List (List AC)} {vs:List Value} (t:List Value),zal h ρ s es vs->zal h ρ s es (vs++t)
 |[],_,t,_=>by simp[zal]
 |e::es,vs,t,r=>by
  simp only[zal]at r⊢
  refine⟨r.1,r.2.1.more t,?_⟩
  rw[List.drop_append]
  exact zal.more _ r.2.2
def zal.append{s:Nat}:∀{es:List (List AC)} {vs:List Value} {es':List (List AC)} {vs':List Value},zal h ρ s es vs->vs.length=es.length*s->zal h ρ s es' vs'->zal h ρ s (es++es') (vs++vs')
 |[],vs,_,_,_,e,r=>by
  have:vs=[]:=by simpa using e
  subst this
  simpa using r
 |e0::es,vs,es',vs',r,e,r'=>by
  simp only[zal,List.cons_append]at r⊢
  have hl:vs.length=s+es.length*s:=by simpa[ay,dC]using e
  refine⟨r.1,r.2.1.more vs',?_⟩
  rw[dI (by omega)]
  exact zal.append r.2.2 (by simp;omega) r'
def zal.of_E{s:Nat}:∀{es:List (List D)} {vs:List Value},RepE h s es vs->zal h ρ s (es.map (·.map .d)) vs
 |[],_,_=>by simp[zal]
 |e::es,vs,r=>by
  simp only[RepE]at r
  simp only[List.map_cons,zal,aU]
  exact⟨r.1,zae.of_D r.2.1,zal.of_E r.2.2⟩
def zal.to_E{s:Nat}:∀{es:List (List D)} {vs:List Value},zal h ρ s (es.map (·.map .d)) vs->RepE h s es vs
 |[],_,_=>by simp[RepE]
 |e::es,vs,r=>by
  simp only[List.map_cons,zal,aU]at r
  simp only[RepE]
  exact⟨r.1,zae.to_D r.2.1,zal.to_E r.2.2⟩
def zal.takeEs{s:Nat}:∀{es:List (List AC)} {vs:List Value} (n:Nat),zal h ρ s es vs->zal h ρ s (es.take n) vs
 |[],_,n,_=>by simp[zal]
 |e0::es,vs,0,r=>by simp[zal]
 |e0::es,vs,n+1,r=>by
  simp only[zal,List.take_succ_cons]at r⊢
  exact⟨r.1,r.2.1,zal.takeEs n r.2.2⟩
def zal.drop{s:Nat}:∀{es:List (List AC)} {vs:List Value} (n:Nat),zal h ρ s es vs->zal h ρ s (es.drop n) (vs.drop (n*s))
 |[],_,n,_=>by simp[zal]
 |e0::es,vs,0,r=>by simpa using r
 |e0::es,vs,n+1,r=>by
  simp only[zal]at r
  have:=zal.drop n r.2.2
  rw[bR]at this
  have e1:s+n*s=(n+1)*s:=by rw[ay,bZ,dC]
  rw[<-e1]
  simpa using this
end
abbrev fT:=@PH.le_refl
abbrev fU:=@RM.le_refl
end Go.Abs
namespace Go.Abs
def upd{α:Type}(f:Nat->α)(k:Nat)(v:α):Nat->α:=fun j=>if j=k then v else f j
def zat{α:Type}(f:Nat->α)(k:Nat)(v:α):upd f k v k=v:=by simp[upd]
def zav{α:Type}(f:Nat->α){k j:Nat}(v:α)(h:j≠k):upd f k v j=f j:=by simp[upd,h]
def Real:Blk->Nat × Nat->Prop
 |.non,_|.dead,_|.pin _ _,_=>False
 |.arr _ _,p=>0<p.2
 |_,_=>True
def RepM(h:PH)(ρ:RM):List (D × AV)->List MapEntry->Prop
 |[],ms=>ms=[]
 |_::_,[]=>False
 |e::es,x::ms=>(RepD h e.1 x.key/\RepV h ρ e.2 x.val)/\RepM h ρ es ms
def RepM.mono{h h':PH}{ρ ρ':RM}(hle:h.le h')(rle:ρ.le ρ'):∀(es:List (D × AV)) (ms:List MapEntry),RepM h ρ es ms->RepM h' ρ' es ms
 |[],_,r=>by simpa[RepM]using r
 |_::_,[],r=>by simp[RepM]at r
 |e::es,x::ms,r=>by
  simp only[RepM]at r⊢
  exact⟨⟨RepD.mono hle _ _ r.1.1,RepV.mono hle rle _ _ r.1.2⟩,RepM.mono hle rle es ms r.2⟩
abbrev Heap:=Array Obj
def zaH(h:PH)(ρ:RM)(p:Nat × Nat):Blk->Heap->Prop
 |.non,_=>True
 |.dead,_=>True
 |.pin t b,_=>p=t/\ρ b=some t
 |.box cs,w=>∃(vs:List Value) (T:TypeId),w[p.1]?=some (.cells vs.toArray T (0,0))/\vs.length=cs.length/\zae h ρ cs vs
 |.arr s es,w=>(p.2=0/\es=[])\/∃(vs:List Value) (T:TypeId),w[p.1]?=some (.cells vs.toArray T (0,0))/\vs.length=p.2*s/\es.length<=p.2/\es.length<=zaf/\zal h ρ s es vs
 |.map es,w=>∃(ms:List MapEntry) (clock:Nat),w[p.1]?=some (.map ms.toArray clock)/\RepM h ρ es ms/\(∀e,e∈ms->e.born<clock)/\(ms.map (·.born)).Nodup
structure HRel (h:PH) (ρ:RM) (m:Hp) (w:Heap):Prop where
 pers:∀B o,h B=some o->w[B]?=some o
 dom:∀b,m b=.non↔ρ b=none
 own:∀b p,ρ b=some p->zaH h ρ p (m b) w
 inj:∀b c p q,ρ b=some p->ρ c=some q->Real (m b) p->Real (m c) q->p.1=q.1->b=c
 sep:∀b p,ρ b=some p->Real (m b) p->h p.1=none
def Free(ρ:RM)(m:Hp)(B:Nat):Prop:=∀b p,ρ b=some p->Real (m b) p->p.1≠B
structure Step (h:PH) (ρ:RM) (m:Hp) (w:Heap) (h':PH) (ρ':RM) (m':Hp) (w':Heap):Prop where
 hle:h.le h'
 hlow:∀B,B<w.size->Free ρ m B->h' B=h B
 rle:ρ.le ρ'
 size:w.size<=w'.size
 frame:∀B,B<w.size->Free ρ m B->w'[B]?=w[B]?
 own:∀b p,ρ' b=some p->Real (m' b) p->w.size<=p.1\/∃c q,ρ c=some q/\Real (m c) q/\q.1=p.1
def Step.free{h h':PH}{ρ ρ':RM}{m m':Hp}{w w':Heap}(s:Step h ρ m w h' ρ' m' w'){B:Nat}(hB:B<w.size)(hf:Free ρ m B):Free ρ' m' B:=by
 intro b p hp hr e
 rcases s.own b p hp hr with h1|⟨c,q,hc,hq,e1⟩
 ·omega
 ·exact hf c q hc hq (e1.trans e)
def Step.trans{h h' h'':PH}{ρ ρ' ρ'':RM}{m m' m'':Hp}{w w' w'':Heap}(s:Step h ρ m w h' ρ' m' w')(t:Step h' ρ' m' w' h'' ρ'' m'' w''):
  Step h ρ m w h'' ρ'' m'' w'' where
 hle:=PH.le_trans s.hle t.hle
 hlow B hB hf:=(t.hlow B (dY hB s.size) (s.free hB hf)).trans (s.hlow B hB hf)
 rle:=RM.le_trans s.rle t.rle
 size:=ak s.size t.size
 frame B hB hf:=(t.frame B (dY hB s.size) (s.free hB hf)).trans (s.frame B hB hf)
 own b p hp hr:=by
  rcases t.own b p hp hr with h1|⟨c,q,hc,hq,e1⟩
  ·exact .inl (ak s.size h1)
  ·rcases s.own c q hc hq with h2|⟨d,r,hd,hr',e2⟩
   ·exact .inl (by omega)
   ·exact .inr ⟨d,r,hd,hr',e2.trans e1⟩
structure zgh (h:PH) (ρ:RM) (m:Hp) (w:Heap) (h':PH) (ρ':RM) (m':Hp) (w':Heap):Prop where
 hle:h.le h'
 hlow:∀B,B<w.size->Free ρ m B->h' B=h B
 size:w.size<=w'.size
 frame:∀B,B<w.size->Free ρ m B->w'[B]?=w[B]?
 own:∀b p,ρ' b=some p->Real (m' b) p->w.size<=p.1\/∃c q,ρ c=some q/\Real (m c) q/\q.1=p.1
def Step.wk{h h':PH}{ρ ρ':RM}{m m':Hp}{w w':Heap}(s:Step h ρ m w h' ρ' m' w'):zgh h ρ m w h' ρ' m' w':=⟨s.hle,s.hlow,s.size,s.frame,s.own⟩
def zgh.free{h h':PH}{ρ ρ':RM}{m m':Hp}{w w':Heap}(s:zgh h ρ m w h' ρ' m' w'){B:Nat}(hB:B<w.size)(hf:Free ρ m B):Free ρ' m' B:=by
 intro b p hp hr e
 rcases s.own b p hp hr with h1|⟨c,q,hc,hq,e1⟩
 ·omega
 ·exact hf c q hc hq (e1.trans e)
def zgh.trans{h h' h'':PH}{ρ ρ' ρ'':RM}{m m' m'':Hp}{w w' w'':Heap}(s:zgh h ρ m w h' ρ' m' w')(t:Step h' ρ' m' w' h'' ρ'' m'' w''):
  zgh h ρ m w h'' ρ'' m'' w'' where
 hle:=PH.le_trans s.hle t.hle
 hlow B hB hf:=(t.hlow B (dY hB s.size) (s.free hB hf)).trans (s.hlow B hB hf)
 size:=ak s.size t.size
 frame B hB hf:=(t.frame B (dY hB s.size) (s.free hB hf)).trans (s.frame B hB hf)
 own b p hp hr:=by
  rcases t.own b p hp hr with h1|⟨c,q,hc,hq,e1⟩
  ·exact .inl (ak s.size h1)
  ·rcases s.own c q hc hq with h2|⟨d,r,hd,hr',e2⟩
   ·exact .inl (by omega)
   ·exact .inr ⟨d,r,hd,hr',e2.trans e1⟩
theorem Step.refl(h:PH)(ρ:RM)(m:Hp)(w:Heap):Step h ρ m w h ρ m w where
 hle:=fT h
 hlow _ _ _:=rfl
 rle:=fU ρ
 size:=aN _
 frame _ _ _:=rfl
 own b p hp hr:=.inr ⟨b,p,hp,hr,rfl⟩
section
variable {h h':PH} {ρ ρ':RM} {m m':Hp} {w w':Heap}
def HRel.lt(H:HRel h ρ m w){B:Nat}{o:Obj}(e:h B=some o):B<w.size:=by
 have:=H.pers B o e
 rcases aW B w.size with h1|h1
 ·exact h1
 ·rw[aj h1]at this;cases this
def zaH.congr{p:Nat × Nat}{blk:Blk}(hle:h.le h')(rle:ρ.le ρ')(e:w'[p.1]?=w[p.1]?)(r:zaH h ρ p blk w):zaH h' ρ' p blk w':=by
 cases blk with
 |non=>trivial
 |dead=>trivial
 |box cs=>
  obtain⟨vs,T,h1,h2,h3⟩:=r
  exact⟨vs,T,e.trans h1,h2,zae.mono hle rle _ _ h3⟩
 |arr s es=>
  rcases r with r|⟨vs,T,h1,h2,h3,h5,h4⟩
  ·exact .inl r
  ·exact .inr ⟨vs,T,e.trans h1,h2,h3,h5,zal.mono hle rle _ _ h4⟩
 |map es=>
  obtain⟨ms,ck,h1,h2,h3,h4⟩:=r
  exact⟨ms,ck,e.trans h1,RepM.mono hle rle _ _ h2,h3,h4⟩
 |pin t b=>exact⟨r.1,rle _ _ r.2⟩
def zaH.notReal{p:Nat × Nat}{blk:Blk}(hn:¬Real blk p)(r:zaH h ρ p blk w)(h':PH){ρ':RM}(rle:ρ.le ρ')(w':Heap):zaH h' ρ' p blk w':=by
 cases blk with
 |non=>trivial
 |dead=>trivial
 |box cs=>exact absurd trivial hn
 |arr s es=>
  have h0:p.2=0:=by simp only[Real]at hn;omega
  rcases r with r|⟨vs,T,h1,h2,h3,h5,h4⟩
  ·exact .inl r
  ·exact .inl ⟨h0,aT.1 (by omega)⟩
 |map es=>exact absurd trivial hn
 |pin t b=>exact⟨r.1,rle _ _ r.2⟩
def zaH.lt{p:Nat × Nat}{blk:Blk}(hn:Real blk p)(r:zaH h ρ p blk w):p.1<w.size:=by
 have key:∀o,w[p.1]?=some o->p.1<w.size:=fun o e=>by
  rcases aW p.1 w.size with h1|h1
  ·exact h1
  ·rw[aj h1]at e;cases e
 cases blk with
 |non=>exact hn.elim
 |dead=>exact hn.elim
 |pin t b=>exact hn.elim
 |box cs=>obtain⟨vs,T,h1,_⟩:=r;exact key _ h1
 |arr s es=>
  rcases r with r|⟨vs,T,h1,_⟩
  ·simp only[Real]at hn;omega
  ·exact key _ h1
 |map es=>obtain⟨vs,T,h1,_⟩:=r;exact key _ h1
def HRel.real_lt(H:HRel h ρ m w){b:Nat}{p:Nat × Nat}(e:ρ b=some p)(hr:Real (m b) p):p.1<w.size:=zaH.lt hr (H.own b p e)
def HRel.grow(H:HRel h ρ m w)(hle:h.le h')(hp:∀B o,h' B=some o->w'[B]?=some o)
  (hf:∀B,B<w.size->¬Free ρ m B->w'[B]?=w[B]?/\h' B=h B):HRel h' ρ m w' where
 pers:=hp
 dom:=H.dom
 own b p e:=by
  by_cases hr:Real (m b) p
  ·exact zaH.congr hle (fU _) (hf p.1 (H.real_lt e hr) (fun hh=>hh b p e hr rfl)).1 (H.own b p e)
  ·exact zaH.notReal hr (H.own b p e) _ (fU _) _
 inj:=H.inj
 sep b p e hr:=by
  rw[(hf p.1 (H.real_lt e hr) (fun hh=>hh b p e hr rfl)).2]
  exact H.sep b p e hr
def zed(w:Heap)(o:Obj){B:Nat}(hB:B<w.size):(w.push o)[B]?=w[B]?:=by
 rw[Array.getElem?_push,aB (by omega)]
def zdg(w:Heap)(o:Obj):(w.push o)[w.size]?=some o:=by simp
def HRel.pushP(H:HRel h ρ m w)(o:Obj):HRel (upd h w.size (some o)) ρ m (w.push o)/\Step h ρ m w (upd h w.size (some o)) ρ m (w.push o):=by
 have hle:h.le (upd h w.size (some o)):=fun B q e=>by
  have:=H.lt e
  rw[zav _ _ (by omega)];exact e
 refine⟨H.grow hle ?_ ?_,⟨hle,fun B hB _=>zav _ _ (by omega),fU _,by simp,fun B hB _=>zed _ _ hB,fun b p e hr=>.inr ⟨b,p,e,hr,rfl⟩⟩⟩
 ·intro B q e
  by_cases hB:B=w.size
  ·subst hB;rw[zat]at e;rw[zdg];exact e
  ·rw[zav _ _ hB]at e
   rw[zed _ _ (H.lt e)];exact H.pers B q e
 ·intro B hB _
  exact⟨zed _ _ hB,zav _ _ (by omega)⟩
def zgL{b:Nat}{p:Nat × Nat}(e:ρ b=none):ρ.le (upd ρ b (some p)):=fun c q hc=>by
 by_cases hcb:c=b
 ·subst hcb;rw[e]at hc;cases hc
 ·rw[zav _ _ hcb];exact hc
def HRel.pushO(H:HRel h ρ m w)(o:Obj){b:Nat}(hb:m b=.non)(cap:Nat){blk:Blk}(hlive:blk≠.non)
  (hrep:zaH h (upd ρ b (some (w.size,cap))) (w.size,cap) blk (w.push o)):
  HRel h (upd ρ b (some (w.size,cap))) (upd m b blk) (w.push o)/\Step h ρ m w h (upd ρ b (some (w.size,cap))) (upd m b blk) (w.push o):=by
 have e0:ρ b=none:=(H.dom b).1 hb
 have rle:=zgL (p:=(w.size,cap)) e0
 refine⟨⟨?_,?_,?_,?_,?_⟩,⟨fT h,fun B hB _=>rfl,rle,by simp,fun B hB _=>zed _ _ hB,?_⟩⟩
 ·intro B q e
  rw[zed _ _ (H.lt e)];exact H.pers B q e
 ·intro c
  by_cases hc:c=b
  ·subst hc;simp[zat,hlive]
  ·rw[zav _ _ hc,zav _ _ hc];exact H.dom c
 ·intro c p e
  by_cases hc:c=b
  ·subst hc;rw[zat]at e⊢;cases e;exact hrep
  ·rw[zav _ _ hc]at e⊢
   by_cases hr:Real (m c) p
   ·exact zaH.congr (fT h) rle (zed _ _ (H.real_lt e hr)) (H.own c p e)
   ·exact zaH.notReal hr (H.own c p e) _ rle _
 ·intro c d p q hc hd hr hs e
  by_cases h1:c=b<;>by_cases h2:d=b
  ·rw[h1,h2]
  ·subst h1;rw[zat]at hc;cases hc
   rw[zav _ _ h2]at hd hs
   have:=H.real_lt hd hs;simp at e;omega
  ·subst h2;rw[zat]at hd;cases hd
   rw[zav _ _ h1]at hc hr
   have:=H.real_lt hc hr;simp at e;omega
  ·rw[zav _ _ h1]at hc hr;rw[zav _ _ h2]at hd hs
   exact H.inj c d p q hc hd hr hs e
 ·intro c p e hr
  by_cases hc:c=b
  ·subst hc;rw[zat]at e;cases e
   cases hh:h w.size with
   |none=>rfl
   |some q=>have:=H.lt hh;omega
  ·rw[zav _ _ hc]at e hr;exact H.sep c p e hr
 ·intro c p e hr
  by_cases hc:c=b
  ·subst hc;rw[zat]at e;cases e;exact .inl (aN _)
  ·rw[zav _ _ hc]at e hr;exact .inr ⟨c,p,e,hr,rfl⟩
def zeT(w:Heap)(i:Nat)(o:Obj){B:Nat}(hB:B≠i):(w.setIfInBounds i o)[B]?=w[B]?:=by
 rw[bQ (Ne.symm hB)]
def zgi(w:Heap){i:Nat}(o:Obj)(hi:i<w.size):(w.setIfInBounds i o)[i]?=some o:=by
 simp[cB,hi]
def HRel.set(H:HRel h ρ m w)(o:Obj){b:Nat}{p:Nat × Nat}(e:ρ b=some p)(hr:Real (m b) p){blk:Blk}(hlive:blk≠.non)
  (hrep:zaH h ρ p blk (w.setIfInBounds p.1 o)):
  HRel h ρ (upd m b blk) (w.setIfInBounds p.1 o)/\Step h ρ m w h ρ (upd m b blk) (w.setIfInBounds p.1 o):=by
 refine⟨⟨?_,?_,?_,?_,?_⟩,⟨fT h,fun B hB _=>rfl,fU _,by simp,?_,?_⟩⟩
 ·intro B q hq
  rw[zeT _ _ _ (fun hh=>by subst hh;rw[H.sep b p e hr]at hq;cases hq)]
  exact H.pers B q hq
 ·intro c
  by_cases hc:c=b
  ·subst hc;rw[zat,e];simp[hlive]
  ·rw[zav _ _ hc];exact H.dom c
 ·intro c q hq
  by_cases hc:c=b
  ·subst hc;rw[zat];rw[e]at hq;cases hq;exact hrep
  ·rw[zav _ _ hc]
   by_cases hs:Real (m c) q
   ·exact zaH.congr (fT h) (fU ρ) (zeT _ _ _ (fun hh=>hc (H.inj c b q p hq e hs hr hh))) (H.own c q hq)
   ·exact zaH.notReal hs (H.own c q hq) _ (fU _) _
 ·intro c d q r hc hd hs ht heq
  by_cases h1:c=b<;>by_cases h2:d=b
  ·rw[h1,h2]
  ·subst h1;rw[zav _ _ h2]at ht;rw[e]at hc;cases hc
   exact H.inj _ _ _ _ e hd hr ht heq
  ·subst h2;rw[zav _ _ h1]at hs;rw[e]at hd;cases hd
   exact H.inj _ _ _ _ hc e hs hr heq
  ·rw[zav _ _ h1]at hs;rw[zav _ _ h2]at ht
   exact H.inj c d q r hc hd hs ht heq
 ·intro c q hq hs
  by_cases hc:c=b
  ·subst hc;rw[e]at hq;cases hq;exact H.sep _ _ e hr
  ·rw[zav _ _ hc]at hs;exact H.sep c q hq hs
 ·intro B hB hf
  exact zeT _ _ _ (fun hh=>hf b p e hr hh.symm)
 ·intro c q hq hs
  by_cases hc:c=b
  ·subst hc;rw[e]at hq;cases hq;exact .inr ⟨_,_,e,hr,rfl⟩
  ·rw[zav _ _ hc]at hs;exact .inr ⟨c,q,hq,hs,rfl⟩
def HRel.kill(H:HRel h ρ m w){b:Nat}(hb:m b≠.non):HRel h ρ (upd m b .dead) w/\Step h ρ m w h ρ (upd m b .dead) w:=by
 refine⟨⟨H.pers,?_,?_,?_,?_⟩,⟨fT h,fun B hB _=>rfl,fU _,aN _,fun B hB _=>rfl,?_⟩⟩
 ·intro c
  by_cases hc:c=b
  ·subst hc;rw[zat]
   constructor
   ·intro h;cases h
   ·intro h;exact absurd ((H.dom _).2 h) hb
  ·rw[zav _ _ hc];exact H.dom c
 ·intro c q hq
  by_cases hc:c=b
  ·subst hc;rw[zat];trivial
  ·rw[zav _ _ hc];exact H.own c q hq
 ·intro c d q r hc hd hs ht heq
  by_cases h1:c=b
  ·subst h1;rw[zat]at hs;exact hs.elim
  by_cases h2:d=b
  ·subst h2;rw[zat]at ht;exact ht.elim
  rw[zav _ _ h1]at hs;rw[zav _ _ h2]at ht
  exact H.inj c d q r hc hd hs ht heq
 ·intro c q hq hs
  by_cases hc:c=b
  ·subst hc;rw[zat]at hs;exact hs.elim
  ·rw[zav _ _ hc]at hs;exact H.sep c q hq hs
 ·intro c q hq hs
  by_cases hc:c=b
  ·subst hc;rw[zat]at hs;exact hs.elim
  ·rw[zav _ _ hc]at hs;exact .inr ⟨c,q,hq,hs,rfl⟩
def HRel.move(H:HRel h ρ m w)(o:Obj){b c:Nat}{p:Nat × Nat}(e:ρ b=some p)(hr:Real (m b) p)(hc:m c=.non){blk:Blk}(hlive:blk≠.non)
  (hrep:zaH h (upd ρ c (some p)) p blk (w.setIfInBounds p.1 o)):
  HRel h (upd ρ c (some p)) (upd (upd m b .dead) c blk) (w.setIfInBounds p.1 o)/\Step h ρ m w h (upd ρ c (some p)) (upd (upd m b .dead) c blk) (w.setIfInBounds p.1 o):=by
 have hbn:m b≠.non:=fun hh=>by rw[hh]at hr;exact hr
 have hcb:c≠b:=fun hh=>by subst hh;exact hbn hc
 have e0:ρ c=Option.none:=(H.dom c).1 hc
 have rle:=zgL (p:=p) e0
 refine⟨⟨?_,?_,?_,?_,?_⟩,⟨fT h,fun B hB _=>rfl,rle,by simp,?_,?_⟩⟩
 ·intro B q hq
  rw[zeT _ _ _ (fun hh=>by subst hh;rw[H.sep b p e hr]at hq;cases hq)]
  exact H.pers B q hq
 ·intro d
  by_cases hd:d=c
  ·subst hd;simp[zat,hlive]
  ·rw[zav _ _ hd,zav _ _ hd]
   by_cases hb:d=b
   ·subst hb;rw[zat,e];simp
   ·rw[zav _ _ hb];exact H.dom d
 ·intro d q hq
  by_cases hd:d=c
  ·subst hd;rw[zat]at hq⊢;cases hq;exact hrep
  ·rw[zav _ _ hd]at hq⊢
   by_cases hb:d=b
   ·subst hb;rw[zat];trivial
   ·rw[zav _ _ hb]
    by_cases hs:Real (m d) q
    ·exact zaH.congr (fT h) rle (zeT _ _ _ (fun hh=>hb (H.inj d b q p hq e hs hr hh))) (H.own d q hq)
    ·exact zaH.notReal hs (H.own d q hq) _ rle _
 ·intro d d' q q' hd hd' hs hs' heq
  have hdb:d≠b:=fun hh=>by subst hh;rw[zav _ _ (Ne.symm hcb),zat]at hs;exact hs
  have hdb':d'≠b:=fun hh=>by subst hh;rw[zav _ _ (Ne.symm hcb),zat]at hs';exact hs'
  by_cases h1:d=c<;>by_cases h2:d'=c
  ·rw[h1,h2]
  ·subst h1;rw[zat]at hd;cases hd
   rw[zav _ _ h2]at hd' hs'
   rw[zav _ _ hdb']at hs'
   exact absurd (H.inj d' b q' p hd' e hs' hr heq.symm) hdb'
  ·subst h2;rw[zat]at hd';cases hd'
   rw[zav _ _ h1]at hd hs
   rw[zav _ _ hdb]at hs
   exact absurd (H.inj d b q p hd e hs hr heq) hdb
  ·rw[zav _ _ h1]at hd hs;rw[zav _ _ h2]at hd' hs'
   rw[zav _ _ hdb]at hs;rw[zav _ _ hdb']at hs'
   exact H.inj d d' q q' hd hd' hs hs' heq
 ·intro d q hq hs
  by_cases hd:d=c
  ·subst hd;rw[zat]at hq;cases hq;exact H.sep b p e hr
  ·rw[zav _ _ hd]at hq hs
   have hdb:d≠b:=fun hh=>by subst hh;rw[zat]at hs;exact hs
   rw[zav _ _ hdb]at hs
   exact H.sep d q hq hs
 ·intro B hB hf
  exact zeT _ _ _ (fun hh=>hf b p e hr hh.symm)
 ·intro d q hq hs
  by_cases hd:d=c
  ·subst hd;rw[zat]at hq;cases hq;exact .inr ⟨b,p,e,hr,rfl⟩
  ·rw[zav _ _ hd]at hq hs
   have hdb:d≠b:=fun hh=>by subst hh;rw[zat]at hs;exact hs
   rw[zav _ _ hdb]at hs
   exact .inr ⟨d,q,hq,hs,rfl⟩
def HRel.none(H:HRel h ρ m w){b:Nat}(hb:m b=.non)(s:Nat):
  HRel h (upd ρ b (some (0,0))) (upd m b (.arr s [])) w/\Step h ρ m w h (upd ρ b (some (0,0))) (upd m b (.arr s [])) w:=by
 have e0:ρ b=Option.none:=(H.dom b).1 hb
 have rle:=zgL (p:=(0,0)) e0
 refine⟨⟨H.pers,?_,?_,?_,?_⟩,⟨fT h,fun B hB _=>rfl,rle,aN _,fun B hB _=>rfl,?_⟩⟩
 ·intro d
  by_cases hd:d=b
  ·subst hd;simp[zat]
  ·rw[zav _ _ hd,zav _ _ hd];exact H.dom d
 ·intro d r hr
  by_cases hd:d=b
  ·subst hd;rw[zat]at hr⊢;cases hr;exact .inl ⟨rfl,rfl⟩
  ·rw[zav _ _ hd]at hr⊢;exact zaH.congr (fT h) rle rfl (H.own d r hr)
 ·intro d d' r r' hd hd' hs hs' heq
  by_cases h1:d=b
  ·subst h1;rw[zat]at hd hs;cases hd;simp[Real]at hs
  by_cases h2:d'=b
  ·subst h2;rw[zat]at hd' hs';cases hd';simp[Real]at hs'
  rw[zav _ _ h1]at hd hs;rw[zav _ _ h2]at hd' hs'
  exact H.inj d d' r r' hd hd' hs hs' heq
 ·intro d r hr hs
  by_cases hd:d=b
  ·subst hd;rw[zat]at hr hs;cases hr;simp[Real]at hs
  ·rw[zav _ _ hd]at hr hs;exact H.sep d r hr hs
 ·intro d r hr hs
  by_cases hd:d=b
  ·subst hd;rw[zat]at hr hs;cases hr;simp[Real]at hs
  ·rw[zav _ _ hd]at hr hs;exact .inr ⟨d,r,hr,hs,rfl⟩
def HRel.freeze(H:HRel h ρ m w){b:Nat}{p:Nat × Nat}(e:ρ b=some p)(hr:Real (m b) p):
  HRel (upd h p.1 w[p.1]?) ρ (upd m b .dead) w/\Step h ρ m w (upd h p.1 w[p.1]?) ρ (upd m b .dead) w:=by
 have hlt:=H.real_lt e hr
 have hle:h.le (upd h p.1 w[p.1]?):=fun B q hq=>by
  by_cases hB:B=p.1
  ·subst hB;rw[H.sep b p e hr]at hq;cases hq
  ·rw[zav _ _ hB];exact hq
 obtain⟨K,S⟩:=H.kill (b:=b) (fun hh=>by rw[hh]at hr;exact hr)
 refine⟨⟨?_,K.dom,?_,K.inj,?_⟩,⟨hle,?_,fU _,aN _,fun B hB _=>rfl,S.own⟩⟩
 ·intro B q hq
  by_cases hB:B=p.1
  ·subst hB;rw[zat]at hq;exact hq
  ·rw[zav _ _ hB]at hq;exact H.pers B q hq
 ·intro c q hq
  exact zaH.congr hle (fU _) rfl (K.own c q hq)
 ·intro c q hq hs
  have hcb:c≠b:=fun hh=>by subst hh;rw[zat]at hs;exact hs
  rw[zav _ _ hcb]at hs
  rw[zav _ _ (fun hh=>hcb (H.inj c b q p hq e hs hr hh))]
  exact H.sep c q hq hs
 ·intro B hB hf
  rw[zav _ _ (fun hh=>hf b p e hr hh.symm)]
end
end Go.Abs
namespace Go.Abs
def Runs{α:Type}(P:Program)(x:Sem α)(w:World)(a:α)(w':World):Prop:=x.run P w=.ok a w'
section
variable {P:Program} {w w' w'':World}
def zbd{α β:Type}{f:α->Sem β}{a:α}:∀{x:Sem α} {w w':World},Runs P x w a w'->(x.bind f).run P w=(f a).run P w'
  |.pure b,w,w',h=>by simp[Runs,Sem.run]at h;obtain⟨rfl,rfl⟩:=h;rfl
  | .load m p k,w,w',h=>by
    simp only[Runs,Sem.run]at h
    simp only[Sem.bind,Sem.run]
    split at h
    · exact zbd h
    · split at h
      · exact zbd h
      · cases h
  | .store m p v k,w,w',h=>by
    simp only[Sem.bind]
    unfold Runs at h
    cases v<;>simp only[Sem.run]at h⊢<;>first
      |(cases h;done)
      | (split at h
         · split at h
           · cases h
           · rename_i hf
             simp only[hf]
             exact zbd h
         · split at h
           · exact zbd h
           · cases h)
  |.new o k,w,w',h=>by simp only[Runs,Sem.run]at h;simp only[Sem.bind,Sem.run];exact zbd h
  |.shape r k,w,w',h=>by simp only[Runs,Sem.run]at h;simp only[Sem.bind,Sem.run];exact zbd h
  |.freeze a n k,w,w',h=>by simp only[Runs,Sem.run]at h;simp only[Sem.bind,Sem.run];exact zbd h
  |.frozen a k,w,w',h=>by simp only[Runs,Sem.run]at h;simp only[Sem.bind,Sem.run];exact zbd h
  | .getObj r k,w,w',h=>by
    simp only[Runs,Sem.run]at h
    simp only[Sem.bind,Sem.run]
    split at h
    · cases h
    · exact zbd h
    · cases h
  | .setObj r o k,w,w',h=>by
    simp only[Runs,Sem.run]at h
    simp only[Sem.bind,Sem.run]
    split at h
    · cases h
    · exact zbd h
    · cases h
  | .choose q k,w,w',h=>by
    simp only[Runs,Sem.run]at h
    simp only[Sem.bind,Sem.run]
    split at h
    · rename_i hq;rw[aC hq];exact zbd h
    · rename_i hq;rw[aB hq];exact zbd h
  |.sys c k,w,w',h=>by simp only[Runs,Sem.run]at h;simp only[Sem.bind,Sem.run];exact zbd h
  |.program k,w,w',h=>by simp only[Runs,Sem.run]at h;simp only[Sem.bind,Sem.run];exact zbd h
  |.mark m k,w,w',h=>by simp only[Runs,Sem.run]at h;simp only[Sem.bind,Sem.run];exact zbd h
  |.halt x,w,w',h=>by simp[Runs,Sem.run]at h
def Runs.bind{α β:Type}{x:Sem α}{f:α->Sem β}{a:α}{b:β}(h:Runs P x w a w')(k:Runs P (f a) w' b w''):Runs P (x>>=f) w b w'':=by
  show(x.bind f).run P w=_
  rw[zbd h];exact k
theorem Runs.pure{α:Type}(a:α):Runs P (Pure.pure a) w a w:=rfl
def Runs.map{α β:Type}{x:Sem α}{f:α->β}{a:α}(h:Runs P x w a w'):Runs P (Functor.map f x) w (f a) w':=by
  show Runs P (x>>=fun a=>Pure.pure (f a)) w (f a) w'
  exact h.bind (Runs.pure _)
theorem Runs.program:Runs P program w P w:=rfl
def Runs.typeInfo{t:TypeId}{i:TypeInfo}(h:P.info? t=some i):Runs P (typeInfo t) w i w:=by
  simp[Runs,Go.typeInfo,Bind.bind,Sem.bind,Sem.run,Go.program,h,Pure.pure]
def Runs.underlying{t:TypeId}{d:TypeDesc}(h:P.underlying t=some d):Runs P (underlying t) w d w:=by
  simp[Runs,Go.underlying,Bind.bind,Sem.bind,Sem.run,Go.program,h,Pure.pure]
def Runs.sizeOf{t:TypeId}{i:TypeInfo}(h:P.info? t=some i):Runs P (sizeOf t) w i.size w:=(Runs.typeInfo h).bind (Runs.pure _)
def Runs.zeroValue{t:TypeId}{i:TypeInfo}{z:Value}(h:P.info? t=some i)(hz:i.zero=some z):Runs P (zeroValue t) w z w:=by
  unfold Go.zeroValue
  refine(Runs.typeInfo h).bind ?_
  simp only[hz]
  exact Runs.pure _
def Runs.load{a:Addr}{v:Value}(h:w.cell? a=some v):Runs P (load a) w v w:=by
  simp[Runs,Go.load,Sem.run,h]
def Runs.store{a:Addr}{u v:Value}(h:w.cell? a=some u)(hf:w.frozen? a=false)(h1:v.one1=true):Runs P (store a v) w () (w.setCell a v):=by
  cases v<;>simp_all[Runs,Go.store,Sem.run,Value.one1]
theorem Runs.newObj(o:Obj):Runs P (newObj o) w w.heap.size {w with heap:=w.heap.push o}:=rfl
def Runs.getObj{r:Nat}{o:Obj}(h:w.heap[r]?=some o)(hc:∀c e f,o≠.cells c e f):Runs P (getObj r) w o w:=by
  unfold Runs
  simp only[Go.getObj,Sem.run,h]
def Runs.setObj{r:Nat}{o o':Obj}(h:w.heap[r]?=some o)(hc:∀c e f,o≠.cells c e f):Runs P (setObj r o') w () {w with heap:=w.heap.setIfInBounds r o'}:=by
  unfold Runs
  simp only[Go.setObj,Sem.run,h]
theorem Runs.mark(m:Mark):Runs P (mark m) w () w:=rfl
def Runs.askRoom(n:Nat):Runs P (askRoom n) w () w:=by
  unfold Go.askRoom
  split
  · exact Runs.mark _
  · exact Runs.pure _
def cell_of{B o:Nat}{c:Array Value}{T:TypeId}{fr:Nat × Nat}(h:w.heap[B]?=some (.cells c T fr)):w.cell? ⟨B,o,none⟩=c[o]?:=by
  simp[World.cell?,h]
def zAV{B o:Nat}{c:Array Value}{T:TypeId}(h:w.heap[B]?=some (.cells c T (0,0))):w.frozen? ⟨B,o,none⟩=false:=by
  simp[World.frozen?,h]
def addr_add(B o n:Nat):(⟨B,o,none⟩:Addr).add n=⟨B,o+n,none⟩:=by
  unfold Addr.add
  split
  · simp[*]
  · rfl
def Runs.loadCellsFrom (B o:Nat):∀(vs:List Value) (i:Nat) (acc:Array Value),(∀j v,vs[j]?=some v->w.cell? ⟨B,o+i+j,none⟩=some v)->
    Runs P (loadCellsFrom ⟨B,o,none⟩ i vs.length acc) w (acc++vs.toArray) w
  |[],i,acc,_=>by simp[Go.loadCellsFrom];exact Runs.pure _
  | v ::vs,i,acc,h=>by
    simp only[List.length_cons,Go.loadCellsFrom]
    refine Runs.bind (a:=v) (w':=w) ?_ ?_
    · rw[addr_add];exact Runs.load (by simpa using h 0 v (by simp))
    · have:=Runs.loadCellsFrom B o vs (i+1) (acc.push v) (fun j u hj=>by
        have:=h (j+1) u (by simpa using hj)
        rw[show o+(i+1)+j=o+i+(j+1)from by omega];exact this)
      have e:acc++(v::vs).toArray=acc.push v++vs.toArray:=by
        apply bv;simp
      rw[e];exact this
def Runs.loadCells{B o:Nat}{vs:List Value}(h:∀j v,vs[j]?=some v->w.cell? ⟨B,o+j,none⟩=some v):Runs P (loadCells ⟨B,o,none⟩ vs.length) w vs.toArray w:=by
  have:=Runs.loadCellsFrom (P:=P) (w:=w) B o vs 0 #[] (by simpa using h)
  rw[show(#[]:Array Value)++vs.toArray=vs.toArray from by simp]at this
  exact this
def Runs.loadCells0(a:Addr)(w:World):Runs P (Go.loadCells a 0) w (#[]:Array Value) w:=by
  unfold Go.loadCells Go.loadCellsFrom
  exact Runs.pure _
def splice{α:Type}:List α->Nat->List α->List α
  |cs,_,[]=>cs
  |cs,o,v::vs=>splice (cs.set o v) (o+1) vs
def zck{α:Type}:∀(vs cs:List α) (o:Nat),(splice cs o vs).length=cs.length
  |[],cs,o=>rfl
  |v::vs,cs,o=>by simp[splice,zck vs]
def World.cellsAt(w:World)(B:Nat)(vs:List Value)(T:TypeId):World:={w with heap:=w.heap.setIfInBounds B (.cells vs.toArray T (0,0))}
def setCell_eq{B o:Nat}{vs:List Value}{T:TypeId}(h:w.heap[B]?=some (.cells vs.toArray T (0,0)))(v:Value):
    w.setCell ⟨B,o,none⟩ v=World.cellsAt w B (vs.set o v) T:=by
  have hB:B<w.heap.size:=by
    rcases aW B w.heap.size with h1|h1
    · exact h1
    · rw[aj h1]at h;cases h
  unfold World.setCell World.cellsAt
  congr 1
  apply Array.ext_getElem?
  intro i
  rw[Array.getElem?_modify]
  by_cases hi:B=i
  · subst hi
    rw[aC rfl,h,cB,aC hB]
    simp
  · rw[aB hi,bQ hi]
def zwK{B:Nat}{vs:List Value}{T:TypeId}(hB:B<w.heap.size):(World.cellsAt w B vs T).heap[B]?=some (.cells vs.toArray T (0,0)):=by
  simp[World.cellsAt,hB]
def zth(B:Nat)(vs us:List Value)(T:TypeId):World.cellsAt (World.cellsAt w B vs T) B us T=World.cellsAt w B us T:=by
  unfold World.cellsAt
  simp
def Runs.storeCells {B:Nat} {T:TypeId} (o:Nat):∀(vs:List Value) (i:Nat) (cs:List Value) (w:World),w.heap[B]?=some (.cells cs.toArray T (0,0))->o+i+vs.length<=cs.length->
    (∀v,v∈vs->v.one1=true)->vs≠[]->Runs P (storeCells ⟨B,o,none⟩ vs i) w () (World.cellsAt w B (splice cs (o+i) vs) T)
  |[],i,cs,w,_,_,_,h0=>absurd rfl h0
  | v ::vs,i,cs,w,h,hl,h1,_=>by
    simp only[Go.storeCells]
    have hB:B<w.heap.size:=by
      rcases aW B w.heap.size with h1|h1
      · exact h1
      · rw[aj h1]at h;cases h
    simp only[List.length_cons]at hl
    have hs:Runs P (Go.store ((⟨B,o,none⟩:Addr).add i) v) w () (World.cellsAt w B (cs.set (o+i) v) T):=by
      rw[addr_add,<-setCell_eq h]
      have hc:w.cell? ⟨B,o+i,none⟩=some cs[o+i]:=by
        rw[cell_of h];simp[aA (by omega:o+i<cs.length)]
      exact Runs.store hc (zAV h) (h1 v (by simp))
    refine hs.bind ?_
    cases vs with
    |nil=>simp only[Go.storeCells,splice];exact Runs.pure _
    | cons u us=>
      have:=Runs.storeCells o (u::us) (i+1) (cs.set (o+i) v) (World.cellsAt w B (cs.set (o+i) v) T) (zwK hB)
        (by simp at hl⊢;omega) (fun x hx=>h1 x (by simp[hx])) (by simp)
      rw[zth]at this
      exact this
end
abbrev fE:=@Runs.pure
abbrev fF:=@Runs.bind
abbrev fO:=@Runs.underlying
abbrev fZ:=@Runs.sizeOf
abbrev fe:=@Runs.zeroValue
abbrev fo:=@Runs.typeInfo
abbrev fu:=@Runs.loadCells
abbrev fw:=@Runs.newObj
abbrev gD:=@Runs.getObj
end Go.Abs
namespace Go.Abs
def Same(w w':World):Prop:=w'.os=w.os/\w'.tape=w.tape/\w'.output=w.output
def Same.refl(w:World):Same w w:=⟨rfl,rfl,rfl⟩
def Same.trans{a b c:World}(h:Same a b)(k:Same b c):Same a c:=⟨k.1.trans h.1,k.2.1.trans h.2.1,k.2.2.trans h.2.2⟩
def wrs:Hp->List (Nat × Blk)->Hp
 |m,[]=>m
 |m,(b,x)::l=>wrs (upd m b x) l
def spN(c:Nat):Int:=if 9<=c/\c<=13\/c=32 then 1 else 0
def Gnd (P : Program) (h : PH) : Prop := ∀ g, P.globalNamed "strings.asciiSpace" = some g -> ∃ o, h g = some o /\ ∀ w : World, w.heap[g]? = some o -> ∀ c, c < 256 -> w.cell? ⟨g, c, none⟩ = some (.int .u8 (spN c))
def Gnd.mono{P:Program}{h h':PH}(k:Gnd P h)(le:h.le h'):Gnd P h':=fun g e=>by
 obtain⟨o,h1,h2⟩:=k g e
 exact⟨o,le g o h1,h2⟩
def zao(P:Program)(o:Oper)(get:Nat->AV)(m:Hp)(rd:List Nat)(wr:List (Nat × Blk))(v:AV):Prop:=
 ∀ m':Hp,(∀b,b∈rd->m' b=m b)->(∀x,x∈wr->m' x.1=m x.1)->∀(h:PH) (ρ:RM) (w:World) (a:Act),HRel h ρ m' w.heap->Gnd P h->
  (∀k,Operand.tmp k∈o.op.operands->RepV h ρ (get k) (a.tmps.getD k undef))->
  ∀(next:Act->World->Prop) (Q:Exit->Act->World->Prop),
   (∀(h':PH) (ρ':RM) (w':World) (vC:Value),Step h ρ m' w.heap h' ρ' (wrs m' wr) w'.heap->HRel h' ρ' (wrs m' wr) w'.heap->Same w w'->RepV h' ρ' v vC->next (a.put o.dst vC) w')->
   o.wp P a w next Q
section
variable {P:Program} {o:Oper} {get:Nat->AV} {m:Hp} {rd:List Nat} {wr:List (Nat × Blk)} {v:AV}
def zao.of_value(H:∀m':Hp,(∀b,b∈rd->m' b=m b)->(∀x,x∈wr->m' x.1=m x.1)->∀(h:PH) (ρ:RM) (w:World) (a:Act),HRel h ρ m' w.heap->
  (∀k,Operand.tmp k∈o.op.operands->RepV h ρ (get k) (a.tmps.getD k undef))->
  ∃(h':PH) (ρ':RM) (w':World) (vC:Value),Runs P (execOp a.eval o) w (.value vC) w'/\Step h ρ m' w.heap h' ρ' (wrs m' wr) w'.heap/\HRel h' ρ' (wrs m' wr) w'.heap/\Same w w'/\RepV h' ρ' v vC):
  zao P o get m rd wr v:=by
 intro m' h1 h2 h ρ w a hr _ hg next Q hn
 obtain⟨h',ρ',w',vC,r,s,k,e,p⟩:=H m' h1 h2 h ρ w a hr hg
 unfold Oper.wp
 rw[show(execOp a.eval o).run P w=.ok (.value vC) w' from r]
 exact hn h' ρ' w' vC s k e p
def zao.of_skip(H:∀m':Hp,(∀b,b∈rd->m' b=m b)->(∀x,x∈wr->m' x.1=m x.1)->∀(h:PH) (ρ:RM) (w:World) (a:Act),HRel h ρ m' w.heap->
  (∀k,Operand.tmp k∈o.op.operands->RepV h ρ (get k) (a.tmps.getD k undef))->
  ∃(h':PH) (ρ':RM) (w':World),Runs P (execOp a.eval o) w .skip w'/\Step h ρ m' w.heap h' ρ' (wrs m' wr) w'.heap/\HRel h' ρ' (wrs m' wr) w'.heap/\Same w w'):
  zao P o get m rd wr (.c (.d .any)):=by
 intro m' h1 h2 h ρ w a hr _ hg next Q hn
 obtain⟨h',ρ',w',r,s,k,e⟩:=H m' h1 h2 h ρ w a hr hg
 unfold Oper.wp
 rw[show(execOp a.eval o).run P w=.ok .skip w' from r]
 exact hn h' ρ' w' undef s k e trivial
def zao.of_pure(H:∀m':Hp,(∀b,b∈rd->m' b=m b)->∀(h:PH) (ρ:RM) (w:World) (a:Act),HRel h ρ m' w.heap->
  (∀k,Operand.tmp k∈o.op.operands->RepV h ρ (get k) (a.tmps.getD k undef))->∃vC,Runs P (execOp a.eval o) w (.value vC) w/\RepV h ρ v vC):zao P o get m rd [] v:=
 zao.of_value fun m' h1 h2 h ρ w a hr hg=>
  let⟨vC,r,p⟩:=H m' h1 h ρ w a hr hg
  ⟨h,ρ,w,vC,r,Step.refl _ _ _ _,hr,Same.refl w,p⟩
end
inductive MX where
 |t (k:Nat)
 |k (x:D)
def X(get:Nat->AV):MX->AV
 |.t k=>get k
 |.k x=>.c (.d x)
def zqe:D->Value->Bool
 |.int k n,.int k' n'=>decide (k=k')&&decide (n=n')&&decide (k.min<=n)&&decide (n<=k.max)
 |.bool b,.bool b'=>b==b'
 |.str s,.string s'=>decide (s=s')&&decide (s.size<=zaf)
 |.sl _ _ [],.slice none 0 0=>true
 |.sc (.pointer none),.pointer none=>true
 |.sc .nilFunc,.nilFunc=>true
 |.sc .nilIface,.nilIface=>true
 |.sc (.map none),.map none=>true
 |_,_=>false
def zsc{x:D}{v:Value}(h:zqe x v=true)(ph:PH):RepD ph x v:=by
 unfold zqe at h
 split at h
 ·simp only[aD,aI]at h
  obtain⟨⟨⟨rfl,rfl⟩,h1⟩,h2⟩:=h
  simp[RepD,h1,h2]
 ·simp at h;simp[RepD,h]
 ·simp at h;simp[RepD,h.1];rw[<-h.1];exact h.2
 ·unfold RepD;exact⟨none,0,rfl,aN _,fun _=>rfl,by simp,fun _=>⟨rfl,rfl⟩,fun p hp=>(by cases hp),(by simp[RepE])⟩
 ·simp[RepD]
 ·simp[RepD]
 ·simp[RepD]
 ·simp[RepD]
 ·cases h
def chkX:MX->Operand->Bool
 |.t k,.tmp k'=>k==k'
 |.k x,.const v=>zqe x v
 |.k (.fn (.func f) []),.func f'=>f==f'
 |_,_=>false
def zaq{x:MX}{o:Operand}(h:chkX x o=true){ph:PH}{ρ:RM}{get:Nat->AV}{a:Act}(hg:∀k,o=.tmp k->RepV ph ρ (get k) (a.tmps.getD k undef)):
  RepV ph ρ (X get x) (a.eval o):=by
 unfold chkX at h
 split at h
 ·simp at h;subst h;exact hg _ rfl
 ·simp only[X,RepV,RepC,Act.eval];exact zsc h ph
 ·simp at h;subst h;simp[X,RepV,RepC,RepD,RepL,Act.eval]
 ·cases h
def zei:List MX->List Operand->Bool
 |[],[]=>true
 |x::xs,o::os=>chkX x o&&zei xs os
 |_,_=>false
def ziy{ph:PH}{ρ:RM}{get:Nat->AV}{a:Act}:∀{xs:List MX} {os:List Operand},zei xs os=true->(∀k,Operand.tmp k∈os->RepV ph ρ (get k) (a.tmps.getD k undef))->
  zas ph ρ (xs.map (X get)) (os.map a.eval)
 |[],[],_,_=>rfl
 |x::xs,o::os,h,hg=>by
  simp only[zei,aD]at h
  simp only[List.map_cons,zas]
  exact⟨zaq h.1 (fun k hk=>hg k (by simp[hk])),ziy h.2 (fun k hk=>hg k (by simp[hk]))⟩
 |[],_::_,h,_=>by simp[zei]at h
 |_::_,[],h,_=>by simp[zei]at h
def D.one:D->Bool
 |.any=>false
 |.sc v=>v.one1
 |_=>true
def AC.one:AC->Bool
 |.d x=>x.one
 |.op _=>false
 |_=>true
def zc1:AV->Option (List AC)
 |.c x=>if x.one then some [x]else none
 |.ag cs=>some cs
 |.tup _=>none
def allD:List AC->Option (List D)
 |[]=>some []
 |.d x::cs=>(allD cs).map (x:: ·)
 |_::_=>none
@[simp] theorem zuu(ds:List D):allD (ds.map .d)=some ds:=by
 induction ds with
 |nil=>rfl
 |cons d ds ih=>simp[allD,ih]
def zhZ:∀{cs:List AC} {ds:List D},allD cs=some ds->cs=ds.map .d
 |[],ds,h=>by simp[allD]at h;simp[<-h]
 |.d x::cs,ds,h=>by
  simp only[allD,aV]at h
  obtain⟨l,h1,h2⟩:=h
  rw[<-h2,zhZ h1];rfl
 |.ptr .. ::_,_,h=>by simp[allD]at h
 |.ept .. ::_,_,h=>by simp[allD]at h
 |.msl .. ::_,_,h=>by simp[allD]at h
 |.map .. ::_,_,h=>by simp[allD]at h
 |.fn .. ::_,_,h=>by simp[allD]at h
 |.op .. ::_,_,h=>by simp[allD]at h
def cellsD(v:AV):Option (List D):=(zc1 v).bind allD
def D.one_ok{h:PH}{x:D}{v:Value}(r:RepD h x v)(h1:x.one=true):v.one1=true:=by
 cases x<;>simp only[D.one]at h1
 case any=>cases h1
 case int=>simp only[RepD]at r;rw[r.1];rfl
 case bool=>simp only[RepD]at r;rw[r];rfl
 case str=>simp only[RepD]at r;rw[r.1];rfl
 case sc u=>simp only[RepD]at r;rw[r];exact h1
 case sl=>simp only[RepD]at r;obtain⟨a,cap,e,_⟩:=r;rw[e];rfl
 case rp=>simp only[RepD]at r;obtain⟨a,cap,e,_⟩:=r;rw[e];rfl
 case fn=>simp only[RepD]at r;obtain⟨a,e,_⟩:=r;rw[e];rfl
 case ifc=>simp only[RepD]at r;obtain⟨a,e,_⟩:=r;rw[e];rfl
def AC.one_ok{h:PH}{ρ:RM}{x:AC}{v:Value}(r:RepC h ρ x v)(h1:x.one=true):v.one1=true:=by
 cases x<;>simp only[AC.one]at h1
 case d=>simp only[RepC]at r;exact D.one_ok r h1
 case ptr=>simp only[RepC]at r;obtain⟨a,_,e⟩:=r;rw[e];rfl
 case ept=>simp only[RepC]at r;obtain⟨a,_,e⟩:=r;rw[e];rfl
 case msl=>simp only[RepC]at r;obtain⟨p,a,_,e,_⟩:=r;rw[e];rfl
 case map=>simp only[RepC]at r;obtain⟨a,_,e⟩:=r;rw[e];rfl
 case fn=>simp only[RepC]at r;obtain⟨a,e,_⟩:=r;rw[e];rfl
 case op=>cases h1
def zyQ{v:Value}(h:v.one1=true):v.cells=#[v]:=by cases v<;>simp_all[Value.one1,Value.cells]
def zae.one{h:PH}{ρ:RM}:∀{cs:List AC} {vs:List Value},zae h ρ cs vs->vs.length=cs.length->∀v,v∈vs->v.one1=true
 |[],[],_,_,v,hv=>by cases hv
 |[],_::_,_,e,_,_=>by simp at e
 |_::_,[],r,_,_,_=>by simp[zae]at r
 |c::cs,u::vs,r,e,v,hv=>by
  simp only[zae]at r
  cases aM.1 hv with
  |inl e1=>rw[e1];exact r.1.1
  |inr e1=>exact zae.one r.2 (by simpa using e) v e1
def zfG{h:PH}{ρ:RM}{v:AV}{x:Value}{cs:List AC}(r:RepV h ρ v x)(e:zc1 v=some cs):∃vs:List Value,x.cells=vs.toArray/\vs.length=cs.length/\zae h ρ cs vs:=by
 cases v with
 | c y=>
  simp only[zc1]at e
  split at e
  ·rename_i h1
   cases e
   simp only[RepV]at r
   have hx:=AC.one_ok r h1
   exact⟨[x],by rw[zyQ hx],rfl,by simp[zae,hx,r]⟩
  ·cases e
 |ag ds=>
  simp only[zc1]at e
  cases e
  simp only[RepV]at r
  obtain⟨vs,e1,e2,e3⟩:=r
  exact⟨vs,by rw[e1];rfl,e2,e3⟩
 |tup _=>cases e
def zmE{h:PH}{ρ:RM}{v:AV}{x:Value}{ds:List D}(r:RepV h ρ v x)(e:cellsD v=some ds):∃vs:List Value,x.cells=vs.toArray/\vs.length=ds.length/\RepL h ds vs:=by
 unfold cellsD at e
 cases hc:zc1 v with
 |none=>rw[hc]at e;cases e
 |some cs=>
  rw[hc]at e
  obtain⟨vs,e1,e2,e3⟩:=zfG r hc
  have:=zhZ e
  subst this
  exact⟨vs,e1,by simpa using e2,zae.to_D e3⟩
def isAg:TypeDesc->Bool
 |.struct _|.array _ _=>true
 |_=>false
def tyA(P:Program)(T:TypeId):Option (Bool × Nat):=
 match P.underlying T,P.info? T with
 |some d,some i=>some (isAg d,i.size)
 |_,_=>none
def zqf{P:Program}{T:TypeId}{b:Bool}{n:Nat}(h:tyA P T=some (b,n)):∃d i,P.underlying T=some d/\P.info? T=some i/\isAg d=b/\i.size=n:=by
 unfold tyA at h
 split at h
 ·rename_i d i h1 h2
  cases h
  exact⟨d,i,h1,h2,rfl,rfl⟩
 ·cases h
def Runs.isAgg{P:Program}{w:World}{T:TypeId}{d:TypeDesc}(h:P.underlying T=some d):Runs P (isAgg T) w (isAg d) w:=by
 unfold Go.isAgg
 refine(fO h).bind ?_
 cases d<;>exact fE _
abbrev fV:=@Same.refl
end Go.Abs
namespace Go.Abs
section
variable {P:Program} {w:World}
def zt2 (op:BinOp) (t:TypeId) (x y:Operand) (a b:Value) (h1:¬(a=.nilIface/\b=.nilIface)) (h2:∀c d,¬(a=.agg c/\b=.agg d)):Runs P (eqGuard op t x y a b) w () w:=by
  cases op<;>first
    |exact fE ()
    |(cases a<;>first
        |exact fE ()
        |(cases b<;>first
            |exact fE ()
            |exact absurd ⟨rfl,rfl⟩ h1
            |exact absurd ⟨rfl,rfl⟩ (h2 _ _)))
def zhH(k:IntKind)(n:Int):k.min<=k.wrap n/\k.wrap n<=k.max:=by
  cases k<;>simp only[IntKind.wrap,IntKind.min,IntKind.max,IntKind.bits,IntKind.signed]<;>constructor<;>simp<;>(try split)<;>omega
def zre{k:IntKind}{n:Int}(h1:k.min<=n)(h2:n<=k.max):k.wrap n=n:=by
  cases k<;>simp only[IntKind.wrap,IntKind.min,IntKind.max,IntKind.bits,IntKind.signed]at* <;>simp at* <;>(try split)<;>omega
def evI(op:BinOp)(k:IntKind)(a b:Int):Option D:=
  match op with
  |.add=>some (.int k (k.wrap (a+b)))
  |.sub=>some (.int k (k.wrap (a-b)))
  |.mul=>some (.int k (k.wrap (a*b)))
  |.and=>some (.int k (k.wrap (BitVec.ofInt k.bits a&&&BitVec.ofInt k.bits b).toNat))
  |.or=>some (.int k (k.wrap (BitVec.ofInt k.bits a|||BitVec.ofInt k.bits b).toNat))
  |.xor=>some (.int k (k.wrap (BitVec.ofInt k.bits a^^^BitVec.ofInt k.bits b).toNat))
  |.andNot=>some (.int k (k.wrap (BitVec.ofInt k.bits a&&& ~~~(BitVec.ofInt k.bits b)).toNat))
  |.eql=>some (.bool (decide (a=b)))
  |.neq=>some (.bool (decide (¬a=b)))
  |.lss=>some (.bool (decide (a<b)))
  |.leq=>some (.bool (decide (a<=b)))
  |.gtr=>some (.bool (decide (b<a)))
  |.geq=>some (.bool (decide (b<=a)))
  |_=>none
def zFy{op:BinOp}{k:IntKind}{a b:Int}{d:D}(h:evI op k a b=some d)(T:TypeId)(ph:PH):∃v,Runs P (binOp op T (.int k a) (.int k b)) w v w/\RepD ph d v:=by
  have key:∀(msg:String) (x:Sem Value),binOp op T (.int k a) (.int k b)=(if k≠k then stuck msg else x)->∀v,x=Pure.pure v->Runs P (binOp op T (.int k a) (.int k b)) w v w:=by
    intro msg x hx v hv
    rw[hx,aB (by simp),hv]
    exact fE _
  cases op<;>simp only[evI]at h<;>first
    |(cases h;done)
    | (cases h
       refine⟨_,key _ _ rfl _ rfl,?_⟩
       unfold RepD
       exact⟨rfl,zhH _ _⟩)
    | (cases h
       refine⟨_,key _ _ rfl _ rfl,?_⟩
       unfold RepD
       refine dL Value.bool ?_
       rw[dN]
       try simp)
def zEs {op:BinOp} {k:IntKind} {a b:Int} (hop:op=.quo\/op=.rem) (hb:b≠0) (ha:k.min<=a/\a<=k.max) (hb':k.min<=b/\b<=k.max) (T:TypeId) (ph:PH):
    ∃v,Runs P (binOp op T (.int k a) (.int k b)) w v w/\RepD ph (.int k (if op=.quo then k.wrap (a.tdiv b)else a.tmod b)) v:=by
  have key:∀(msg:String) (x:Sem Value),binOp op T (.int k a) (.int k b)=(if k≠k then stuck msg else x)->∀v,Runs P x w v w->Runs P (binOp op T (.int k a) (.int k b)) w v w:=by
    intro msg x hx v hv
    rw[hx,aB (by simp)]
    exact hv
  rcases hop with rfl|rfl
  · refine⟨_,key _ _ rfl _ (by unfold Op.intDiv;rw[aB hb];exact fE _),?_⟩
    rw[aC rfl]
    unfold RepD
    exact⟨rfl,zhH _ _⟩
  · refine⟨_,key _ _ rfl _ (by unfold Op.intDiv;rw[aB hb];exact fE _),?_⟩
    rw[aB (by decide)]
    unfold RepD
    refine⟨rfl,?_,?_⟩
    · by_cases h0:0<=a
      · have:=eT b h0
        have hm:k.min<=0:=by cases k<;>decide
        omega
      · have h1:(-a).tmod b= -(a.tmod b):=Int.neg_tmod ..
        have h2:=eT (a:= -a) b (by omega)
        have h3:(-a).tmod b<= -a:=by
          have e:((-a).toNat:Int)= -a:=by omega
          have:=Int.natAbs_tmod (-a) b
          have h4:((-a).tmod b).natAbs<=(-a).natAbs:=by rw[this];exact Nat.mod_le _ _
          omega
        omega
    · by_cases h0:0<=a
      · have h2:=eT b h0
        have:=Int.natAbs_tmod a b
        have h4:(a.tmod b).natAbs<=a.natAbs:=by rw[this];exact Nat.mod_le _ _
        omega
      · have h1:(-a).tmod b= -(a.tmod b):=Int.neg_tmod ..
        have h2:=eT (a:= -a) b (by omega)
        have hm:0<=k.max:=by cases k<;>decide
        omega
def toList_inj(a b:fC):(a.toList==b.toList)=decide (a=b):=by
  rw[dN]
  simp only[aY,aI]
  constructor
  · intro h
    rw[ByteArray.toList_eq,ByteArray.toList_eq]at h
    exact Go.WideShapes.bytes_inj h
  · intro h;rw[h]
def evS(op:BinOp)(a b:fC):Option D:=
  match op with
  |.eql=>some (.bool (decide (a=b)))
  |.neq=>some (.bool (!decide (a=b)))
  |.lss=>some (.bool (Op.bytesLess a.data.toList b.data.toList))
  |.leq=>some (.bool (Op.bytesLess a.data.toList b.data.toList||decide (a=b)))
  |.gtr=>some (.bool (!(Op.bytesLess a.data.toList b.data.toList||decide (a=b))))
  |.geq=>some (.bool (!Op.bytesLess a.data.toList b.data.toList))
  |_=>none
def zFz{op:BinOp}{a b:fC}{d:D}(h:evS op a b=some d)(T:TypeId)(ph:PH):∃v,Runs P (binOp op T (.string a) (.string b)) w v w/\RepD ph d v:=by
  have key:binOp op T (.string a) (.string b)=Op.stringOp op a b:=by cases op<;>rfl
  rw[key]
  unfold Op.stringOp
  rw[toList_inj,ByteArray.toList_eq,ByteArray.toList_eq]
  cases op<;>simp only[evS]at h<;>first
    |(cases h;done)
    |(cases h;exact⟨_,fE _,rfl⟩)
def zc0{a b:fC}(h:a.size+b.size<=zaf)(T:TypeId)(ph:PH):∃v,Runs P (binOp .add T (.string a) (.string b)) w v w/\RepD ph (.str (a++b)) v:=by
  refine⟨.string (a++b),?_,?_⟩
  · show Runs P (Op.stringOp .add a b) w _ w
    unfold Op.stringOp
    simp only
    rw[aB]
    · exact fE _
    · unfold zaf at h
      have:IntKind.i64.max=9223372036854775807:=by decide
      rw[this]
      simp only[gt_iff_lt,Int.not_lt]
      omega
  · unfold RepD
    exact⟨rfl,by rw[ax];exact h⟩
def evB(op:BinOp)(a b:Bool):Option D:=
  match op with
  |.eql=>some (.bool (a==b))
  |.neq=>some (.bool (!(a==b)))
  |_=>none
def zFA{op:BinOp}{a b:Bool}{d:D}(h:evB op a b=some d){T:TypeId}(hT:P.underlying T=some .bool)(ph:PH):∃v,Runs P (binOp op T (.bool a) (.bool b)) w v w/\RepD ph d v:=by
  have eq:Runs P (Op.equal T (.bool a) (.bool b)) w (a==b) w:=by
    unfold Op.equal Op.maxDepth Op.equalIn
    refine(fO hT).bind ?_
    exact fE _
  cases op<;>simp only[evB]at h<;>first
    |(cases h;done)
    |(cases h;exact⟨_,eq.bind (fE _),rfl⟩)
end
end Go.Abs
namespace Go.Abs
mutual
def AC.ren(f:Nat->Nat):AC->AC
 |.d x=>.d x
 |.ptr b off=>.ptr (f b) off
 |.ept s b i off=>.ept s (f b) i off
 |.msl s b off len=>.msl s (f b) off len
 |.map b=>.map (f b)
 |.fn g caps=>.fn g (AC.rens f caps)
 |.op r=>.op r
def AC.rens(f:Nat->Nat):List AC->List AC
 |[]=>[]
 |c::cs=>c.ren f::AC.rens f cs
end
mutual
def AC.lt(n:Nat):AC->Bool
 |.d _=>true
 |.ptr b _=>decide (b<n)
 |.ept _ b _ _=>decide (b<n)
 |.msl _ b _ _=>decide (b<n)
 |.map b=>decide (b<n)
 |.fn _ caps=>AC.lts n caps
 |.op _=>true
def AC.lts(n:Nat):List AC->Bool
 |[]=>true
 |c::cs=>c.lt n&&AC.lts n cs
end
mutual
def AV.ren(f:Nat->Nat):AV->AV
 |.c x=>.c (x.ren f)
 |.ag cs=>.ag (AC.rens f cs)
 |.tup vs=>.tup (AV.rens f vs)
def AV.rens(f:Nat->Nat):List AV->List AV
 |[]=>[]
 |v::vs=>v.ren f::AV.rens f vs
end
mutual
def AV.lt(n:Nat):AV->Bool
 |.c x=>x.lt n
 |.ag cs=>AC.lts n cs
 |.tup vs=>AV.lts n vs
def AV.lts(n:Nat):List AV->Bool
 |[]=>true
 |v::vs=>v.lt n&&AV.lts n vs
end
def Blk.ren(f:Nat->Nat):Blk->Blk
 |.non=>.non
 |.dead=>.dead
 |.box cs=>.box (AC.rens f cs)
 |.arr s es=>.arr s (es.map (AC.rens f))
 |.map es=>.map (es.map fun e=>(e.1,e.2.ren f))
 |.pin t b=>.pin t (f b)
def Blk.lt(n:Nat):Blk->Bool
 |.non=>true
 |.dead=>true
 |.box cs=>AC.lts n cs
 |.arr _ es=>es.all (AC.lts n)
 |.map es=>es.all fun e=>e.2.lt n
 |.pin _ b=>decide (b<n)
@[simp] theorem AC.rens_D(f:Nat->Nat)(ds:List D):AC.rens f (ds.map .d)=ds.map .d:=by
 induction ds with
 |nil=>rfl
 |cons d ds ih=>simp[AC.rens,AC.ren,ih]
@[simp] theorem AC.lts_D(n:Nat)(ds:List D):AC.lts n (ds.map .d)=true:=by
 induction ds with
 |nil=>rfl
 |cons d ds ih=>simp[AC.lts,AC.lt,ih]
def rmR(f:Nat->Nat)(n:Nat)(ρ:RM):RM:=fun b=>if b<n then ρ (f b)else none
def zih{f:Nat->Nat}{n:Nat}{ρ:RM}{b:Nat}{p:Nat × Nat}(hb:b<n)(h:ρ (f b)=some p):rmR f n ρ b=some p:=by
 unfold rmR;rw[aC hb];exact h
section
variable {h:PH} {ρ:RM} {f:Nat->Nat} {n:Nat}
mutual
def RepC.ren:∀(x:AC) (v:Value),x.lt n=true->RepC h ρ (x.ren f) v->RepC h (rmR f n ρ) x v
 |.d x,v,_,r=>by simpa only[AC.ren,RepC]using r
 |.ptr b off,v,hl,r=>by
  simp only[AC.lt,aI]at hl
  simp only[AC.ren,RepC]at r⊢
  obtain⟨p,h1,h2⟩:=r
  exact⟨p,zih hl h1,h2⟩
 |.ept s b i off,v,hl,r=>by
  simp only[AC.lt,aI]at hl
  simp only[AC.ren,RepC]at r⊢
  obtain⟨p,h1,h2⟩:=r
  exact⟨p,zih hl h1,h2⟩
 |.msl s b off len,v,hl,r=>by
  simp only[AC.lt,aI]at hl
  simp only[AC.ren,RepC]at r⊢
  obtain⟨p,a,h1,h2⟩:=r
  exact⟨p,a,zih hl h1,h2⟩
 |.map b,v,hl,r=>by
  simp only[AC.lt,aI]at hl
  simp only[AC.ren,RepC]at r⊢
  obtain⟨p,h1,h2⟩:=r
  exact⟨p,zih hl h1,h2⟩
 | .fn g caps,v,hl,r=>by
  simp only[AC.lt]at hl
  simp only[AC.ren,RepC]at r⊢
  obtain⟨vs,h1,h2,h3⟩:=r
  have e:(AC.rens f caps).length=caps.length:=by
   have:∀(cs:List AC),(AC.rens f cs).length=cs.length:=by
    intro cs;induction cs with
    |nil=>rfl
    |cons c cs ih=>simp[AC.rens,ih]
   exact this caps
  exact⟨vs,h1,by rw[h2,e],zae.ren caps vs hl h3⟩
 |.op q,v,_,r=>by simpa only[AC.ren,RepC]using r
def zae.ren:∀(cs:List AC) (vs:List Value),AC.lts n cs=true->zae h ρ (AC.rens f cs) vs->zae h (rmR f n ρ) cs vs
 |[],_,_,_=>by simp[zae]
 |_::_,[],_,r=>by simp[AC.rens,zae]at r
 |c::cs,v::vs,hl,r=>by
  simp only[AC.lts,aD]at hl
  simp only[AC.rens,zae]at r⊢
  exact⟨⟨r.1.1,RepC.ren c v hl.1 r.1.2⟩,zae.ren cs vs hl.2 r.2⟩
end
def AC.rens_length(cs:List AC):(AC.rens f cs).length=cs.length:=by
 induction cs with
 |nil=>rfl
 |cons c cs ih=>simp[AC.rens,ih]
mutual
def RepV.ren:∀(x:AV) (v:Value),x.lt n=true->RepV h ρ (x.ren f) v->RepV h (rmR f n ρ) x v
 |.c x,v,hl,r=>by
  simp only[AV.lt]at hl
  simp only[AV.ren,RepV]at r⊢
  exact RepC.ren x v hl r
 |.ag cs,v,hl,r=>by
  simp only[AV.lt]at hl
  simp only[AV.ren,RepV]at r⊢
  obtain⟨vs,h1,h2,h3⟩:=r
  exact⟨vs,h1,by rw[h2,AC.rens_length],zae.ren cs vs hl h3⟩
 |.tup xs,v,hl,r=>by
  simp only[AV.lt]at hl
  simp only[AV.ren,RepV]at r⊢
  obtain⟨vs,h1,h2⟩:=r
  exact⟨vs,h1,zas.ren xs vs hl h2⟩
def zas.ren:∀(xs:List AV) (vs:List Value),AV.lts n xs=true->zas h ρ (AV.rens f xs) vs->zas h (rmR f n ρ) xs vs
 |[],vs,_,r=>by simpa[AV.rens,zas]using r
 |_::_,[],_,r=>by simp[AV.rens,zas]at r
 |x::xs,v::vs,hl,r=>by
  simp only[AV.lts,aD]at hl
  simp only[AV.rens,zas]at r⊢
  exact⟨RepV.ren x v hl.1 r.1,zas.ren xs vs hl.2 r.2⟩
end
def zal.ren{s:Nat}:∀(es:List (List AC)) (vs:List Value),es.all (AC.lts n)=true->zal h ρ s (es.map (AC.rens f)) vs->zal h (rmR f n ρ) s es vs
 |[],_,_,_=>by simp[zal]
 |e::es,vs,hl,r=>by
  simp only[List.all_cons,aD]at hl
  simp only[List.map_cons,zal,AC.rens_length]at r⊢
  exact⟨r.1,zae.ren e vs hl.1 r.2.1,zal.ren es _ hl.2 r.2.2⟩
def RepM.ren:∀(es:List (D × AV)) (ms:List MapEntry),(es.all fun e=>e.2.lt n)=true->RepM h ρ (es.map fun e=>(e.1,e.2.ren f)) ms->RepM h (rmR f n ρ) es ms
 |[],ms,_,r=>by simpa[RepM]using r
 |_::_,[],_,r=>by simp[RepM]at r
 |e::es,x::ms,hl,r=>by
  simp only[List.all_cons,aD]at hl
  simp only[List.map_cons,RepM]at r⊢
  exact⟨⟨r.1.1,RepV.ren _ _ hl.1 r.1.2⟩,RepM.ren es ms hl.2 r.2⟩
def zaH.ren{p:Nat × Nat}{blk:Blk}{w:Heap}(hl:blk.lt n=true)(r:zaH h ρ p (blk.ren f) w):zaH h (rmR f n ρ) p blk w:=by
 cases blk with
 |non=>trivial
 |dead=>trivial
 |box cs=>
  obtain⟨vs,T,h1,h2,h3⟩:=r
  exact⟨vs,T,h1,by rw[h2,AC.rens_length],zae.ren cs vs hl h3⟩
 |arr s es=>
  rcases r with⟨h1,h2⟩|⟨vs,T,h1,h2,h3,h4,h5⟩
  ·exact .inl ⟨h1,by simpa using h2⟩
  ·exact .inr ⟨vs,T,h1,h2,by simpa using h3,by simpa using h4,zal.ren es vs hl h5⟩
 |map es=>
  obtain⟨ms,ck,h1,h2,h3,h4⟩:=r
  exact⟨ms,ck,h1,RepM.ren es ms hl h2,h3,h4⟩
 |pin t b=>
  simp only[Blk.lt,aI]at hl
  exact⟨r.1,zih hl r.2⟩
end
def Real.ren{f:Nat->Nat}{blk:Blk}{p:Nat × Nat}:Real (blk.ren f) p↔Real blk p:=by cases blk<;>simp[Blk.ren,Real]
def hpOf(bs:List Blk):Hp:=fun b=>bs.getD b .non
def fOf(l:List Nat):Nat->Nat:=fun b=>l.getD b 0
mutual
def AC.lv(p:Nat->Bool):AC->Bool
 |.d _=>true
 |.ptr b _=>p b
 |.ept _ b _ _=>p b
 |.msl _ b _ _=>p b
 |.map b=>p b
 |.fn _ caps=>AC.lvs p caps
 |.op _=>true
def AC.lvs(p:Nat->Bool):List AC->Bool
 |[]=>true
 |c::cs=>c.lv p&&AC.lvs p cs
end
mutual
def AV.lv(p:Nat->Bool):AV->Bool
 |.c x=>x.lv p
 |.ag cs=>AC.lvs p cs
 |.tup vs=>AV.lvs p vs
def AV.lvs(p:Nat->Bool):List AV->Bool
 |[]=>true
 |v::vs=>v.lv p&&AV.lvs p vs
end
def Blk.lv(p:Nat->Bool):Blk->Bool
 |.non=>true
 |.dead=>true
 |.box cs=>AC.lvs p cs
 |.arr _ es=>es.all (AC.lvs p)
 |.map es=>es.all fun e=>e.2.lv p
 |.pin _ _=>false
def AC.lvs_D(p:Nat->Bool)(ds:List D):AC.lvs p (ds.map .d)=true:=by
 induction ds with
 |nil=>rfl
 |cons d ds ih=>simp[AC.lvs,AC.lv,ih]
section
variable {h:PH} {ρ ρ2:RM} {f f2:Nat->Nat} {p:Nat->Bool}
def AC.rens_len(f:Nat->Nat)(cs:List AC):(AC.rens f cs).length=cs.length:=by
 induction cs with
 |nil=>rfl
 |cons c cs ih=>simp[AC.rens,ih]
mutual
def RepC.mv(H:∀b q,p b=true->ρ (f b)=some q->ρ2 (f2 b)=some q):∀(x:AC) (v:Value),x.lv p=true->RepC h ρ (x.ren f) v->RepC h ρ2 (x.ren f2) v
 |.d x,v,_,r=>by simpa only[AC.ren,RepC]using r
 |.ptr b off,v,hl,r=>by
  simp only[AC.lv]at hl
  simp only[AC.ren,RepC]at r⊢
  obtain⟨q,h1,h2⟩:=r
  exact⟨q,H b q hl h1,h2⟩
 |.ept s b i off,v,hl,r=>by
  simp only[AC.lv]at hl
  simp only[AC.ren,RepC]at r⊢
  obtain⟨q,h1,h2⟩:=r
  exact⟨q,H b q hl h1,h2⟩
 |.msl s b off len,v,hl,r=>by
  simp only[AC.lv]at hl
  simp only[AC.ren,RepC]at r⊢
  obtain⟨q,a,h1,h2⟩:=r
  exact⟨q,a,H b q hl h1,h2⟩
 |.map b,v,hl,r=>by
  simp only[AC.lv]at hl
  simp only[AC.ren,RepC]at r⊢
  obtain⟨q,h1,h2⟩:=r
  exact⟨q,H b q hl h1,h2⟩
 |.fn g caps,v,hl,r=>by
  simp only[AC.lv]at hl
  simp only[AC.ren,RepC]at r⊢
  obtain⟨vs,h1,h2,h3⟩:=r
  exact⟨vs,h1,by rw[h2,AC.rens_len,AC.rens_len],zae.mv H caps vs hl h3⟩
 |.op q,v,_,r=>by simpa only[AC.ren,RepC]using r
def zae.mv(H:∀b q,p b=true->ρ (f b)=some q->ρ2 (f2 b)=some q):∀(cs:List AC) (vs:List Value),AC.lvs p cs=true->zae h ρ (AC.rens f cs) vs->zae h ρ2 (AC.rens f2 cs) vs
 |[],_,_,_=>by simp[AC.rens,zae]
 |_::_,[],_,r=>by simp[AC.rens,zae]at r
 |c::cs,v::vs,hl,r=>by
  simp only[AC.lvs,aD]at hl
  simp only[AC.rens,zae]at r⊢
  exact⟨⟨r.1.1,RepC.mv H c v hl.1 r.1.2⟩,zae.mv H cs vs hl.2 r.2⟩
end
mutual
def RepV.mv(H:∀b q,p b=true->ρ (f b)=some q->ρ2 (f2 b)=some q):∀(x:AV) (v:Value),x.lv p=true->RepV h ρ (x.ren f) v->RepV h ρ2 (x.ren f2) v
 |.c x,v,hl,r=>by
  simp only[AV.lv]at hl
  simp only[AV.ren,RepV]at r⊢
  exact RepC.mv H x v hl r
 |.ag cs,v,hl,r=>by
  simp only[AV.lv]at hl
  simp only[AV.ren,RepV]at r⊢
  obtain⟨vs,h1,h2,h3⟩:=r
  exact⟨vs,h1,by rw[h2,AC.rens_len,AC.rens_len],zae.mv H cs vs hl h3⟩
 |.tup xs,v,hl,r=>by
  simp only[AV.lv]at hl
  simp only[AV.ren,RepV]at r⊢
  obtain⟨vs,h1,h2⟩:=r
  exact⟨vs,h1,zas.mv H xs vs hl h2⟩
def zas.mv(H:∀b q,p b=true->ρ (f b)=some q->ρ2 (f2 b)=some q):∀(xs:List AV) (vs:List Value),AV.lvs p xs=true->zas h ρ (AV.rens f xs) vs->zas h ρ2 (AV.rens f2 xs) vs
 |[],vs,_,r=>by simpa[AV.rens,zas]using r
 |_::_,[],_,r=>by simp[AV.rens,zas]at r
 |x::xs,v::vs,hl,r=>by
  simp only[AV.lvs,aD]at hl
  simp only[AV.rens,zas]at r⊢
  exact⟨RepV.mv H x v hl.1 r.1,zas.mv H xs vs hl.2 r.2⟩
end
def zal.mv(H:∀b q,p b=true->ρ (f b)=some q->ρ2 (f2 b)=some q){s:Nat}:∀(es:List (List AC)) (vs:List Value),es.all (AC.lvs p)=true->zal h ρ s (es.map (AC.rens f)) vs->zal h ρ2 s (es.map (AC.rens f2)) vs
 |[],_,_,_=>by simp[zal]
 |e::es,vs,hl,r=>by
  simp only[List.all_cons,aD]at hl
  simp only[List.map_cons,zal,AC.rens_len]at r⊢
  exact⟨r.1,zae.mv H e vs hl.1 r.2.1,zal.mv H es _ hl.2 r.2.2⟩
def RepM.mv(H:∀b q,p b=true->ρ (f b)=some q->ρ2 (f2 b)=some q):∀(es:List (D × AV)) (ms:List MapEntry),(es.all fun e=>e.2.lv p)=true->RepM h ρ (es.map fun e=>(e.1,e.2.ren f)) ms->RepM h ρ2 (es.map fun e=>(e.1,e.2.ren f2)) ms
 |[],ms,_,r=>by simpa[RepM]using r
 |_::_,[],_,r=>by simp[RepM]at r
 |e::es,x::ms,hl,r=>by
  simp only[List.all_cons,aD]at hl
  simp only[List.map_cons,RepM]at r⊢
  exact⟨⟨r.1.1,RepV.mv H _ _ hl.1 r.1.2⟩,RepM.mv H es ms hl.2 r.2⟩
def zaH.mv(H:∀b q,p b=true->ρ (f b)=some q->ρ2 (f2 b)=some q){q:Nat × Nat}{blk:Blk}{w:Heap}(hl:blk.lv p=true)(r:zaH h ρ q (blk.ren f) w):zaH h ρ2 q (blk.ren f2) w:=by
 cases blk with
 |non=>trivial
 |dead=>trivial
 |box cs=>
  obtain⟨vs,T,h1,h2,h3⟩:=r
  exact⟨vs,T,h1,by rw[h2,AC.rens_len,AC.rens_len],zae.mv H cs vs hl h3⟩
 |arr s es=>
  rcases r with⟨h1,h2⟩|⟨vs,T,h1,h2,h3,h4,h5⟩
  ·exact .inl ⟨h1,by simpa using h2⟩
  ·exact .inr ⟨vs,T,h1,h2,by simpa using h3,by simpa using h4,zal.mv H es vs hl h5⟩
 |map es=>
  obtain⟨ms,ck,h1,h2,h3,h4⟩:=r
  exact⟨ms,ck,h1,RepM.mv H es ms hl h2,h3,h4⟩
 |pin t b=>cases hl
end
mutual
def AC.ren_id:∀x:AC,x.ren id=x
 |.d _=>rfl
 |.ptr _ _=>rfl
 |.ept _ _ _ _=>rfl
 |.msl _ _ _ _=>rfl
 |.map _=>rfl
 |.fn g caps=>by simp[AC.ren,AC.rens_id caps]
 |.op _=>rfl
def AC.rens_id:∀x:List AC,AC.rens id x=x
 |[]=>rfl
 |c::cs=>by simp[AC.rens,AC.ren_id c,AC.rens_id cs]
end
mutual
def AV.ren_id:∀x:AV,x.ren id=x
 |.c x=>by simp[AV.ren,AC.ren_id]
 |.ag cs=>by simp[AV.ren,AC.rens_id]
 |.tup vs=>by simp[AV.ren,AV.rens_id vs]
def AV.rens_id:∀x:List AV,AV.rens id x=x
 |[]=>rfl
 |x::xs=>by simp[AV.rens,AV.ren_id x,AV.rens_id xs]
end
def Blk.ren_id(x:Blk):x.ren id=x:=by
 cases x with
 |non=>rfl
 |dead=>rfl
 |box cs=>simp[Blk.ren,AC.rens_id]
 |arr s es=>
  have:(AC.rens id)=id:=funext fun x=>AC.rens_id x
  simp[Blk.ren,this]
 |map es=>
  have:(fun e:D × AV=>(e.1,e.2.ren id))=id:=funext fun x=>by simp[AV.ren_id]
  simp[Blk.ren,this]
 |pin t b=>rfl
def newN:Nat->Nat->List Nat
 |_,0=>[]
 |n,d+1=>n::newN (n+1) d
def zii(m:Hp):Nat->Nat->Prop
 |_,0=>True
 |n,d+1=>m n=.non/\zii m (n+1) d
def wrL(f:Nat->Nat):List Nat->List Blk->List (Nat × Blk)
 |j::js,b::bs=>(j,b.ren f)::wrL f js bs
 |_,_=>[]
def atL(m:Hp)(f:Nat->Nat):List Nat->List Blk->Prop
 |[],[]=>True
 |j::js,b::bs=>m j=b.ren f/\atL m f js bs
 |_,_=>False
def live(bs:List Blk)(b:Nat):Bool:=match bs[b]? with
 |some .dead|some .non|none=>false
 |some _=>true
end Go.Abs
