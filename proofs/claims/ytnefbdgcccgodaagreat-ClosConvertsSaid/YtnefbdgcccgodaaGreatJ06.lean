/- Texts of ours, joined and written short by a program of ours. -/
import Derived.Test.YtnefbdgcccgodaaGreatJ05
import Derived.Carry
import Derived.ChangeArms
import Derived.SizedLaws
import Derived.Test.YtnefbdgcccgodaaGreatChecked
import Derived.KernelRfl
set_option linter.unusedVariables false
set_option linter.unusedSimpArgs false
namespace Go.Abs
mutual
def zaY(P:Program):Nat->TypeId->List D->Prop
 |0,_,_=>False
 |n+1,t,ds=>match P.underlying t with
  |some .bool=>∃b,ds=[.bool b]
  |some (.int k)=>∃i,ds=[.int k i]
  |some .string=>∃s,ds=[.str s]
  |some (.slice e)=>∃es,ds=[.sl false (P.cellsOf e) es]/\∀x,x∈es->zaY P n e x
  |some (.struct fs)=>zcF P n (fs.toList.map (·.type)) ds
  |_=>False
def zcF(P:Program):Nat->List TypeId->List D->Prop
 |_,[],ds=>ds=[]
 |n,t::ts,ds=>∃a b,ds=a++b/\zaY P n t a/\zcF P n ts b
end
def layF(P:Program)(tot:Nat):Nat->List Field->Bool
 |o,[]=>o==tot
 |o,f::r=>f.offset==o&&layF P tot (o+P.cellsOf f.type) r
def ziC(P:Program)(S:List TypeId)(t:TypeId):Bool:=match P.underlying t with
 |some .bool|some (.int _)|some .string=>true
 |some (.slice e)=>S.contains e&&decide (0<P.cellsOf e)&&decide (0<P.bytesOf e)
 |some (.struct fs)=>layF P (P.cellsOf t) 0 fs.toList&&fs.toList.all fun f=>S.contains f.type
 |_=>false
theorem RepE.of_get{h:PH}{s:Nat}:∀{es:List (List D)} {vs:List Value},(∀i e,es[i]?=some e->e.length=s/\RepL h e (vs.drop (i*s)))->RepE h s es vs
 |[],vs,_=>by simp[RepE]
 |e::es,vs,H=>by
  simp only[RepE]
  have h0:=H 0 e rfl
  refine⟨h0.1,by simpa using h0.2,RepE.of_get fun i e' he=>?_⟩
  have:=H (i+1) e' (by simpa using he)
  rw[List.drop_drop,show s+i*s=(i+1)*s by rw[Nat.add_mul];omega]
  exact this
section
variable {H:Type} {enc:TypeId × Value->H} {P:Program} {w:World} {held:Bool}
theorem mapM_cells{B:Nat}{c:Array Value}{ty:TypeId}{fr:Nat × Nat}(hB:w.heap[B]?=some (.cells c ty fr)):∀(n k o:Nat) (cs:List Value),((List.range' k n).mapM fun i=>w.cell? ⟨B,o+i,none⟩)=some cs->cs=(c.toList.drop (o+k)).take n/\cs.length=n
 |0,k,o,cs,h=>by simp at h;subst h;simp
 | n+1,k,o,cs,h=>by
  rw[List.range'_succ,List.mapM_cons]at h
  have hc:w.cell? ⟨B,o+k,none⟩=c[o+k]?:=by simp[World.cell?,hB]
  rw[hc]at h
  cases e:c[o+k]? with
  |none=>simp[e]at h
  | some v=>
   simp only[e,Option.pure_def,Option.bind_eq_bind,Option.bind_some,Option.bind_eq_some_iff]at h
   obtain⟨r,hr,hcs⟩:=h
   cases hcs
   obtain⟨h1,h2⟩:=mapM_cells hB n (k+1) o r hr
   have hk:o+k<c.toList.length:=by
    rcases Nat.lt_or_ge (o+k) c.size with h|h
    ·simpa using h
    ·rw[Array.getElem?_eq_none h]at e;cases e
   rw[List.drop_eq_getElem_cons hk]
   refine⟨?_,by simp[h2]⟩
   rw[List.take_succ_cons,h1,show o+(k+1)=o+k+1 by omega]
   congr 1
   have:=Array.getElem?_eq_getElem (xs:=c) (i:=o+k) (by simpa using hk)
   rw[this]at e
   simp at e
   simp[e]
theorem zlM{base:Nat}{a:Addr}{s:Nat}{cs:List Value}(hs:0<s)(h:w.cells? base a s=some cs):a.spot=none/\cs=((hcells (fun B=>w.heap[B]?) a.block).drop a.off).take s/\cs.length=s:=by
 unfold World.cells? at h
 split at h
 ·obtain⟨B,o,sp⟩:=a
  have hsp:sp=none:=by
   cases sp with
   |none=>rfl
   | some z=>
    exfalso
    cases s with
    |zero=>cases hs
    | succ s=>
     rw[List.range_eq_range',List.range'_succ,List.mapM_cons]at h
     have:w.cell? (Addr.add ⟨B,o,some z⟩ 0)=none:=by
      unfold World.cell? Addr.add
      simp
      cases w.heap[B]? with
      |none=>rfl
      |some ob=>cases ob<;>rfl
     rw[this]at h
     simp at h
  subst hsp
  refine⟨rfl,?_⟩
  simp only[addr_add]at h
  simp only[hcells]
  cases e:w.heap[B]? with
  | none=>
   exfalso
   cases s with
   |zero=>cases hs
   |succ s=>
    rw[List.range_eq_range',List.range'_succ,List.mapM_cons]at h
    simp[World.cell?,e]at h
  | some ob=>
   cases ob with
   |cells c ty fr=>
    rw[List.range_eq_range']at h
    have:=mapM_cells e s 0 o cs h
    rw[Nat.add_zero]at this
    exact this
   | _=>
    exfalso
    cases s with
    |zero=>cases hs
    |succ s=>
     rw[List.range_eq_range',List.range'_succ,List.mapM_cons]at h
     simp[World.cell?,e]at h
 ·cases h
theorem RepL.of_take{h:PH}{ds:List D}{vs:List Value}{n:Nat}(r:RepL h ds (vs.take n)):RepL h ds vs:=by
 have:=RepL.mono (PH.le_refl h) ds _ (vs.drop n) r
 simpa using this
theorem zhN{e:TypeId}:∀{l:List (DataW H)} {d:DataW H},d∈l->∀n,n∈d.weights P e->n∈DataW.weightsAll P e l
 |x::l,d,h,n,hn=>by
  simp only[DataW.weightsAll,List.mem_append]
  cases List.mem_cons.1 h with
  |inl h=>subst h;exact Or.inl hn
  |inr h=>exact Or.inr (zhN h n hn)
theorem zoT:reachBytes<=zah:=by decide
theorem zt3 {S:List TypeId} (hS:∀t,t∈S->ziC P S t=true):∀(fuel:Nat) (t:TypeId) (cs:List Value) (d:DataW H) (ps:List MemPlace),t∈S->
  DataW.trod enc P w 0 (fun _=>true) true fuel t cs=some (d,ps)->(∀n,n∈d.weights P t->n<=reachBytes)->
  ∃ds,zaY P fuel t ds/\RepL (fun B=>w.heap[B]?) ds cs/\ds.length=cs.length:=by
 intro fuel
 induction fuel with
 |zero=>intro t cs d ps _ h;simp[DataW.trod]at h
 |succ fuel ih=>
 intro t cs d ps ht h hw
 have hg:=hS t ht
 unfold ziC at hg
 split at hg
 ·rename_i hu
  obtain⟨b,rfl,_⟩:=DataW.trod_bool hu h
  exact⟨[.bool b],by unfold zaY;rw[hu];exact⟨b,rfl⟩,by simp[RepL,RepD,Value.one1],rfl⟩
 ·rename_i k hu
  obtain⟨n,rfl,_,hwf⟩:=DataW.trod_int hu h
  refine⟨[.int k n],by unfold zaY;rw[hu];exact⟨n,rfl⟩,?_,rfl⟩
  simp only[Lit.wf,Bool.and_eq_true,decide_eq_true_eq]at hwf
  simp[RepL,RepD,Value.one1,hwf]
 ·rename_i hu
  obtain⟨s,rfl,hx,_⟩:=DataW.trod_string hu h
  refine⟨[.str s],by unfold zaY;rw[hu];exact⟨s,rfl⟩,?_,rfl⟩
  simp only[Prod.mk.injEq]at hx
  rw[hx.1]at hw
  have h1:=hw s.data.toList.length (by unfold DataW.weights;exact List.mem_singleton.2 rfl)
  have e:s.size=s.data.toList.length:=(Array.length_toList ..).symm
  have h2:=zoT
  refine⟨⟨rfl,?_⟩,trivial⟩
  unfold RepD
  exact⟨rfl,e▸Nat.le_trans h1 h2⟩
 ·rename_i e hu
  simp only[Bool.and_eq_true,decide_eq_true_eq,List.contains_iff_mem]at hg
  obtain⟨⟨he,hc⟩,hb⟩:=hg
  rcases DataW.trod_slice hu h with⟨rfl,_⟩|⟨a,len,cap,elems,rest,n,hn,rfl,hx,_,hlc,hcm,hlen,hel,hsp,_⟩
  ·refine⟨[.sl false (P.cellsOf e) []],by unfold zaY;rw[hu];exact⟨[],rfl,by simp⟩,?_,rfl⟩
   refine⟨⟨rfl,?_⟩,trivial⟩
   unfold RepD
   exact⟨none,0,rfl,Nat.le_refl _,fun h=>(by cases h),Nat.zero_le _,fun _=>⟨rfl,rfl⟩,fun p hp=>(by cases hp),(by simp[RepE])⟩
  ·simp only[Nat.add_right_cancel_iff]at hn
   subst hn
   simp only[Prod.mk.injEq]at hx
   have hw0:∀x,x∈elems.map (·.1)->∀m,m∈x.weights P e->m<=reachBytes:=fun x hx' m hm=>hw m (by
    rw[hx.1];simp only[DataW.weights,hu]
    exact List.mem_cons_of_mem _ (List.mem_append_left _ (zhN hx' m hm)))
   have hcap:(elems.length+rest.length)*P.bytesOf e<=reachBytes:=hw _ (by rw[hx.1];simp only[DataW.weights,hu];simp)
   have hcap':elems.length+rest.length<=reachBytes:=Nat.le_trans (Nat.le_mul_of_pos_right _ hb) hcap
   have key:∀i,i<len->∃ds,zaY P fuel e ds/\ds.length=P.cellsOf e/\a.spot=none/\RepL (fun B=>w.heap[B]?) ds ((hcells (fun B=>w.heap[B]?) a.block).drop (a.off+i*P.cellsOf e)):=by
    intro i hi
    have h1:=hel i hi
    have hil:i<elems.length:=by omega
    rw[List.getElem?_eq_getElem hil]at h1
    obtain⟨cs',hcs,htr⟩:=Option.bind_eq_some_iff.1 h1
    obtain⟨ds,s1,s2,s3⟩:=ih e cs' elems[i].1 elems[i].2 he htr (hw0 _ (List.mem_map_of_mem (List.getElem_mem hil)))
    obtain⟨g1,g2,g3⟩:=zlM hc hcs
    have g4:(a.add (i*P.cellsOf e)).block=a.block:=by unfold Addr.add;split<;>rfl
    have g5:(a.add (i*P.cellsOf e)).off=a.off+i*P.cellsOf e:=by unfold Addr.add;split<;>simp_all
    rw[g4,g5]at g2
    refine⟨ds,s1,by omega,?_,RepL.of_take (g2▸s2)⟩
    -- the first element's reading says that the place is plain
    have h0:=hel 0 (by omega)
    rw[List.getElem?_eq_getElem (show 0<elems.length by omega)]at h0
    obtain⟨cs0,hcs0,_⟩:=Option.bind_eq_some_iff.1 h0
    have:=(zlM hc hcs0).1
    simpa[Addr.add]using this
   have hspot:0<cap->a.spot=none:=by
    intro hcap
    rcases Nat.lt_or_ge 0 len with hl|hl
    ·obtain⟨_,_,_,h3,_⟩:=key 0 hl;exact h3
    ·have hl0:len=0:=by omega
     have:=(hsp rfl).2 0 (by omega)
     rw[List.getElem?_eq_getElem (show 0<rest.length by have:=(hsp rfl).1;omega)]at this
     obtain⟨cs0,hcs0,_⟩:=Option.bind_eq_some_iff.1 this
     have:=(zlM hc hcs0).1
     simpa[Addr.add,hl0]using this
   have pick:∃es:List (List D),es.length=len/\∀i x,es[i]?=some x->zaY P fuel e x/\x.length=P.cellsOf e/\RepL (fun B=>w.heap[B]?) x ((hcells (fun B=>w.heap[B]?) a.block).drop (a.off+i*P.cellsOf e)):=by
    have:∀m,m<=len->∃es:List (List D),es.length=m/\∀i x,es[i]?=some x->zaY P fuel e x/\x.length=P.cellsOf e/\RepL (fun B=>w.heap[B]?) x ((hcells (fun B=>w.heap[B]?) a.block).drop (a.off+i*P.cellsOf e)):=by
     intro m
     induction m with
     |zero=>intro _;exact⟨[],rfl,by simp⟩
     | succ m ihm=>
      intro hm
      obtain⟨es,hes,hall⟩:=ihm (by omega)
      obtain⟨ds,d1,d2,d3,d4⟩:=key m (by omega)
      refine⟨es++[ds],by simp[hes],fun i x hx=>?_⟩
      rw[List.getElem?_append]at hx
      split at hx
      ·exact hall i x hx
      ·have:i=m:=by
        rcases Nat.lt_or_ge (i-es.length) 1 with h|h
        ·omega
        ·rw[List.getElem?_eq_none (by simpa using h)]at hx;cases hx
       subst this
       simp[hes]at hx
       subst hx
       exact⟨d1,d2,d4⟩
    exact this len (Nat.le_refl _)
   obtain⟨es,hes,hall⟩:=pick
   refine⟨[.sl false (P.cellsOf e) es],?_,?_,rfl⟩
   ·unfold zaY;rw[hu]
    refine⟨es,rfl,fun x hx=>?_⟩
    obtain⟨i,hi,rfl⟩:=List.getElem_of_mem hx
    exact(hall i _ (List.getElem?_eq_getElem hi)).1
   ·have:=zoT
    simp only[RepL,RepD,Value.one1,and_true,true_and]
    refine⟨some a,cap,by rw[hes],by omega,by simp,by omega,by simp,fun p hp hcap=>by cases hp;exact hspot hcap,?_⟩
    refine RepE.of_get fun i x hx=>?_
    obtain⟨_,h2,h3⟩:=hall i x hx
    refine⟨h2,?_⟩
    simp only[cellsAt]
    rw[List.drop_drop]
    exact h3
 ·rename_i fs hu
  simp only[Bool.and_eq_true,List.all_eq_true,List.contains_iff_mem]at hg
  obtain⟨hlay,hmem⟩:=hg
  obtain⟨xs,n,hn,hx,hl,hxl,hf⟩:=DataW.trod_struct hu h
  simp only[Nat.add_right_cancel_iff]at hn
  subst hn
  simp only[Prod.mk.injEq]at hx
  have hw1:∀(i:Nat) (f:Field) y,fs[i]?=some f->xs[i]?=some y->∀m,m∈y.1.weights P f.type->m<=reachBytes:=fun i f y hfi hyi m hm=>hw m (by
   rw[hx.1];simp only[DataW.weights,hu]
   exact DataW.weights_mem_each (j:=i) (t:=f.type) (d:=y.1) (by simp[hfi]) (by simp[hyi]) m hm)
  have key:∀(l:List Field) (k o:Nat),fs.toList.drop k=l->layF P (P.cellsOf t) o l=true->o<=cs.length->∃ds,zcF P fuel (l.map (·.type)) ds/\RepL (fun B=>w.heap[B]?) ds (cs.drop o)/\ds.length=cs.length-o:=by
   intro l
   induction l with
   |nil=>
    intro k o _ hlay ho
    simp only[layF,beq_iff_eq]at hlay
    exact⟨[],by simp[zcF],by simp[RepL],by simp;omega⟩
   | cons f l ihl=>
    intro k o hk hlay ho
    simp only[layF,Bool.and_eq_true,beq_iff_eq]at hlay
    have hkf:fs[k]?=some f:=by
     have:(fs.toList.drop k)[0]?=some f:=by rw[hk];rfl
     simpa using this
    have hfk:=hf k f hkf
    have hks:k<xs.length:=by
     rw[hxl]
     rcases Nat.lt_or_ge k fs.size with h|h
     ·exact h
     ·rw[Array.getElem?_eq_none h]at hkf;cases hkf
    rw[List.getElem?_eq_getElem hks,hlay.1]at hfk
    have hfm:f∈fs.toList:=List.mem_of_mem_drop (i:=k) (by rw[hk];simp)
    obtain⟨a,s1,s2,s3⟩:=ih f.type _ xs[k].1 xs[k].2 (hmem f hfm) hfk (hw1 k f xs[k] hkf (List.getElem?_eq_getElem hks))
    have hle:∀(l:List Field) (o:Nat),layF P (P.cellsOf t) o l=true->o<=P.cellsOf t:=by
     intro l
     induction l with
     |nil=>intro o h;simp[layF]at h;omega
     |cons f l ih=>intro o h;simp[layF]at h;have:=ih _ h.2;omega
    have ho2:=hle _ _ hlay.2
    obtain⟨b,t1,t2,t3⟩:=ihl (k+1) (o+P.cellsOf f.type) (by rw[<-List.drop_drop,hk];rfl) hlay.2 (by omega)
    have hal:a.length=P.cellsOf f.type:=by rw[s3];simp;omega
    refine⟨a++b,(by simp only[List.map_cons,zcF];exact⟨a,b,rfl,s1,t1⟩),?_,by simp[hal,t3];omega⟩
    have e:cs.drop o=(cs.drop o).take (P.cellsOf f.type)++cs.drop (o+P.cellsOf f.type):=by
     rw[<-List.drop_drop,List.take_append_drop]
    rw[e]
    exact RepL.append s2 (by rw[s3]) t2
  obtain⟨ds,d1,d2,d3⟩:=key fs.toList 0 0 rfl hlay (by omega)
  exact⟨ds,by unfold zaY;rw[hu];exact d1,by simpa using d2,by simpa using d3⟩
 ·cases hg
def isAgg(P:Program)(t:TypeId):Bool:=match P.underlying t with
 |some (.struct _)=>true
 |_=>false
def dvOf(ag:Bool)(ds:List D):DV:=match ag with
 |true=>.agg ds
 |false=>.one (ds.headD .any)
def zhO(P:Program):List TypeId->List DV->Prop
 |[],vs=>vs=[]
 |_::_,[]=>False
 |t::ts,v::vs=>(∃n ds,zaY P n t ds/\v=dvOf (isAgg P t) ds)/\zhO P ts vs
theorem zzd{S:List TypeId}(hS:∀t,t∈S->ziC P S t=true){base:Nat}{t:TypeId}{v:Value}{d:DataW H}{ps:List MemPlace}(ht:t∈S)(hval:Value.okWide P w .any base t v)
  (h:DataW.Trod enc P w 0 (fun _=>true) true t v d ps) (hw:∀n,n∈d.weights P t->n<=reachBytes):
  ∃n ds,zaY P n t ds/\zaJ (fun B=>w.heap[B]?) (dvOf (isAgg P t) ds) v:=by
 obtain⟨fuel,h⟩:=h
 obtain⟨ds,h1,h2,h3⟩:=zt3 hS fuel t _ d ps ht h hw
 refine⟨fuel,ds,h1,?_⟩
 unfold isAgg
 unfold Value.okWide at hval
 have hg:=hS t ht
 unfold ziC at hg
 have one:∀u:Value,u=v->u.cells.toList=[u]->zaJ (fun B=>w.heap[B]?) (dvOf false ds) v:=by
  intro u hu hc
  subst hu
  rw[hc]at h2 h3
  match ds,h3 with
  |[x],_=>simp only[dvOf,List.headD_cons,zaJ];simp only[RepL]at h2;exact h2.1.2
 have cell:∀{td:TypeDesc},P.underlying t=some td->Cell.okWide P w .any base t v->(∀fs,td≠.struct fs)->(∀n e,td≠.array n e)->v.cells.toList=[v]:=by
  intro td hu hc h1 h2
  unfold Cell.okWide Cell.ok at hc
  rw[hu]at hc
  cases v<;>first|rfl|(exfalso;revert hc;cases td<;>simp)
 split at hg
 ·rename_i hu
  rw[hu]at hval⊢
  exact one v rfl (cell hu hval (by simp) (by simp))
 ·rename_i hu
  rw[hu]at hval⊢
  exact one v rfl (cell hu hval (by simp) (by simp))
 ·rename_i hu
  rw[hu]at hval⊢
  exact one v rfl (cell hu hval (by simp) (by simp))
 ·rename_i hu
  rw[hu]at hval⊢
  exact one v rfl (cell hu hval (by simp) (by simp))
 ·rename_i hu
  rw[hu]at hval⊢
  simp only at hval⊢
  obtain⟨cs,rfl,_,_⟩:=hval
  simp only[dvOf,zaJ]
  refine⟨cs.toList,by simp,?_,h2⟩
  rw[h3];rfl
 ·cases hg
theorem zq0{S:List TypeId}(hS:∀t,t∈S->ziC P S t=true){base:Nat}:∀{ts:List TypeId} {vs:List Value} {ds:List (DataW H)} {ps:List MemPlace},(∀t,t∈ts->t∈S)->
  (∀(j:Nat) t v,ts[j]?=some t->vs[j]?=some v->Value.okWide P w .any base t v)->DataW.TrodAll enc P w 0 (fun _=>true) true ts vs ds ps->(∀n,n∈DataW.weightsEach P ts ds->n<=reachBytes)->
  ∃dvs,zhO P ts dvs/\zaw (fun B=>w.heap[B]?) dvs vs
 |[],[],[],_,_,_,_,_=>⟨[],rfl,by simp[zaw]⟩
 |t::ts,v::vs,d::ds,ps,ht,hval,h,hw=>by
  obtain⟨p,q,h1,h2,_⟩:=h
  obtain⟨n,e,a1,a2⟩:=zzd hS (ht t (by simp)) (hval 0 t v rfl rfl) h1 (fun n hn=>hw n (by simp[DataW.weightsEach,hn]))
  obtain⟨dvs,b1,b2⟩:=zq0 hS (fun u hu=>ht u (by simp[hu])) (fun j u x hu hx=>hval (j+1) u x (by simpa using hu) (by simpa using hx)) h2 (fun n hn=>hw n (by simp[DataW.weightsEach,hn]))
  exact⟨dvOf (isAgg P t) e::dvs,⟨⟨n,e,a1,rfl⟩,b1⟩,by simp only[zaw];exact⟨a2,b2⟩⟩
theorem zi6(hl:laidOutB P=true){W W':World}(hb:Go.RowKit.Below W.heap.size W W'):∀{ts:List TypeId} {vs:List Value} {ds:List (DataW H)} {ps:List MemPlace},(∀t,t∈ts->P.readableRec t=true/\t<P.types.size)->
  DataW.TrodAll enc P W 0 (fun _=>true) true ts vs ds ps->(∀x,x∈ps->x.block<W.heap.size)->DataW.TrodAll enc P W' 0 (fun b=>decide (b<W.heap.size)) true ts vs ds ps
 |[],[],[],_,_,h,_=>h
 |t::ts,v::vs,d::ds,ps,hr,h,hlt=>by
  obtain⟨p,q,h1,h2,rfl⟩:=h
  have hrt:=hr t (by simp)
  exact⟨p,q,Go.RowKit.Below.trod hl hrt.1 hrt.2 h1 hb (fun x hx=>hlt x (by simp[hx])),zi6 hl hb (fun u hu=>hr u (by simp[hu])) h2 (fun x hx=>hlt x (by simp[hx])),rfl⟩
end
theorem law_lifted{C:Checked}{os:Os}{f:FuncId}{fn:Func}{s:ChangeSpec}{conds:List PathCond}{S:List TypeId}{rt:TypeId}{H:Type}{enc:TypeId × Value->H}
  (hG : C.prog.globalNamed "strings.asciiSpace" = none) (own : ownKnob C.prog.godebug = none) (started : os.Started) (noInit : C.prog.inits.idxOf? f = none) (hfn : C.prog.funcs[f]? = some fn) (hvars : s.vars = [])
  (hS:(S.all fun t=>ziC C.prog S t&&C.prog.readableRec t&&decide (t<C.prog.types.size))=true) (hp:(fn.params.toList.all fun t=>S.contains t)=true)
  (hres:fn.resultTypes=#[rt]) (hrt:C.prog.underlying rt=some .bool) (hl:laidOutB C.prog=true)
  (hspec:∀(ds:List (DataW H)),ds.length=fn.params.size->s.fn H ds={results:=[.lit (.bool true)],args:=ds})
  (witness:∃(w:World) (tape:Tape) (i:Input),w.os=os/\(w.forCall tape i).Shaped C.prog/\i.vars=[]/\Input.okWide C.prog (w.forCall tape i) .any w.heap.size f i/\
   s.pre6 enc C.prog fn conds false (w.forCall tape i).memory i.args/\({}:Assume).holds C.prog (lone (Frame.enter C.prog f i.args .normal) [] (w.forCall tape i)))
  (hc:∀dvs,zhO C.prog fn.params.toList dvs->PCall C.prog f dvs (.one (.bool true))):
  ReturnsInHanded {} C os f .any (s.pre6 enc C.prog fn conds false) (s.post enc C.prog fn false true false false):=by
 refine returnsInHanded_of_change_sized own started noInit hfn witness ?_
 intro W base args ds gs before hval hW _ hwt _
 simp only[List.all_eq_true,Bool.and_eq_true,decide_eq_true_eq,List.contains_iff_mem]at hS hp
 have hW':=hW
 obtain⟨p,q,hA,hV,hpq,hfz,hnd⟩:=hW
 rw[hvars]at hV
 have hgs:gs=[]/\q=[]:=by
  cases gs with
  |nil=>exact⟨rfl,hV⟩
  |cons g gs=>exact hV.elim
 obtain⟨rfl,rfl⟩:=hgs
 simp only[List.append_nil]at hpq
 subst hpq
 have hpv:s.plain.varTypes C.prog=[]:=by unfold ChangeSpec.plain DataSpec.varTypes;rw[hvars];rfl
 simp only[hpv,List.append_nil,List.all_eq_true,decide_eq_true_eq]at hwt
 have hlen:∀{ts:List TypeId} {vs:List Value} {ds:List (DataW H)} {ps:List MemPlace},DataW.TrodAll enc C.prog W 0 (fun _=>true) true ts vs ds ps->ds.length=ts.length:=by
  intro ts
  induction ts with
  |nil=>intro vs ds ps h;cases vs<;>cases ds<;>first|rfl|exact h.elim
  |cons t ts ih=>
   intro vs ds ps h
   cases vs<;>cases ds<;>first|exact h.elim|skip
   obtain⟨_,_,_,h2,_⟩:=h
   simp[ih h2]
 obtain⟨dvs,d1,d2⟩:=zq0 (fun t ht=>(hS t ht).1.1) hp (fun j t v ht hv=>hval j t v (by simpa using ht) (by simpa using hv)) hA hwt
 have hcall:=(hc dvs d1).2 (fun B=>W.heap[B]?) W args.toList (fun B o h=>h) (fun g e=>by rw[hG]at e;cases e) d2
 refine(show Calls C.prog f args.toList.toArray W _ from hcall).mono fun e W' he=>?_
 obtain⟨vC,h',rfl,_,_,_,hsz,hold,⟨so,st,sp⟩,rv⟩:=he
 simp only[zaJ,RepD]at rv
 subst rv
 have hb:Go.RowKit.Below W.heap.size W W':=⟨so,st,sp,hsz,hold⟩
 have hsp:=hspec ds (by simpa using hlen hA)
 refine⟨_,rfl,ds,[],before,[],before,[],hW',?_,?_,?_,hb.frame _,fun h=>by cases h⟩
 ·rw[List.append_nil,hsp,hres]
  refine⟨[],[],⟨1,?_⟩,rfl,rfl⟩
  unfold DataW.trod
  rw[hrt]
  rfl
 ·rw[List.append_nil,hsp]
  exact zi6 hl hb (fun t ht=>⟨(hS t (hp t ht)).1.2,(hS t (hp t ht)).2⟩) hA (fun x hx=>hW'.lt x hx)
 ·rw[List.append_nil,hsp,hvars]
  rfl
section
variable {P:Program} {n:Nat} {t:TypeId} {ds:List D}
theorem zvX{k:IntKind}(hu:P.underlying t=some (.int k))(h:zaY P n t ds):∃i,ds=[.int k i]:=by
 cases n with
 |zero=>exact(by unfold zaY at h;exact h:False).elim
 |succ n=>unfold zaY at h;rw[hu]at h;exact h
theorem zoU(hu:P.underlying t=some .string)(h:zaY P n t ds):∃i,ds=[.str i]:=by
 cases n with
 |zero=>exact(by unfold zaY at h;exact h:False).elim
 |succ n=>unfold zaY at h;rw[hu]at h;exact h
theorem zq1{fs:Array Field}(hu:P.underlying t=some (.struct fs))(h:zaY P n t ds):∃m,n=m+1/\zcF P m (fs.toList.map (·.type)) ds:=by
 cases n with
 |zero=>exact(by unfold zaY at h;exact h:False).elim
 |succ n=>unfold zaY at h;rw[hu]at h;exact⟨n,rfl,h⟩
theorem zvY(h:zcF P n [] ds):ds=[]:=by unfold zcF at h;exact h
theorem zmV{ts:List TypeId}(h:zcF P n (t::ts) ds):∃a b,ds=a++b/\zaY P n t a/\zcF P n ts b:=by unfold zcF at h;exact h
theorem zxS{α:Type}{enc:α->List D}{es:List (List D)}(h:∀x,x∈es->∃a,x=enc a):∃l:List α,es=l.map enc:=by
 induction es with
 |nil=>exact⟨[],rfl⟩
 |cons e es ih=>
  obtain⟨a,ha⟩:=h e (by simp)
  obtain⟨l,hl⟩:=ih (fun x hx=>h x (by simp[hx]))
  exact⟨a::l,by simp[ha,hl]⟩
theorem zrY{e:TypeId}{s:Nat}{α:Type}{enc:α->List D}(hu:P.underlying t=some (.slice e))(hs:P.cellsOf e=s)(he:∀m,m<n->∀x,zaY P m e x->∃a,x=enc a)(h:zaY P n t ds):∃l:List α,ds=[.sl false s (l.map enc)]:=by
 cases n with
 |zero=>exact(by unfold zaY at h;exact h:False).elim
 |succ n=>
  unfold zaY at h;rw[hu]at h
  obtain⟨es,h1,h2⟩:=h
  obtain⟨l,hl⟩:=zxS (enc:=enc) (fun x hx=>he n (by omega) x (h2 x hx))
  exact⟨l,by rw[h1,hs,hl]⟩
end
end Go.Abs
namespace Go.Abs
def zipK:List Nat->List AV->List (Nat × AV)
 |k::ks,v::vs=>(k,v)::zipK ks vs
 |_,_=>[]
def ziD(S:St)(ks:List Nat):List Nat->List (Nat × AV)
 |[]=>[]
 |k::r=>if k∈ks then ziD S ks r else(k,S.get k)::ziD S ks r
attribute [simp] zipK ziD
theorem W.loopL{P:Program}{c:Ctx}{Q:Exit->St->Prop}{S:St}{Y:Type}(hm:P.follows .mixedOrders=true)(hp:c.pure){body:MC}{g:Tag (body,Q)}(live ks:List Nat)(I:Y->Prop)(ch:Y->List AV)(bs:Y->List Blk)(μ:Y->Nat)(x0:Y)(l0:List Nat)(hI:I x0)
  (h0:Match l0 S (zipK ks (ch x0)++ziD S ks live) (bs x0))
  (round:∀x,I x->w_ P c body (zdp (Next I (fun x=>zipK ks (ch x)++ziD S ks live) bs μ x ⟨⟩) Q) ⟨⟩ (hd (zipK ks (ch x)++ziD S ks live) (bs x))):lw_ P c body Q g S:=
 W.loop hm hp I (fun x=>zipK ks (ch x)++ziD S ks live) bs μ x0 l0 hI h0 round
end Go.Abs
namespace Go.Abs
def argA:Nat->List AV->List (Nat × AV)
 |_,[]=>[]
 |i,v::vs=>(i,v)::argA (i+1) vs
def zcm:Nat->List (Nat × Nat)->List Blk
 |_,[]=>[]
 |i,t::ts=>.pin t i::zcm (i+1) ts
def AC.ok:AC->Prop
 |.d x=>x.ok
 |_=>True
def AC.okL:List AC->Prop
 |[]=>True
 |c::cs=>c.ok/\AC.okL cs
def AV.ok:AV->Prop
 |.c x=>x.ok
 |.ag cs=>AC.okL cs
 |_=>True
def AV.okL:List AV->Prop
 |[]=>True
 |v::vs=>v.ok/\AV.okL vs
def AC.okE(s:Nat):List (List AC)->Prop
 |[]=>True
 |e::es=>(e.length=s/\AC.okL e)/\AC.okE s es
def Blk.ok:Blk->Prop
 |.box cs=>AC.okL cs
 |.arr s es=>es.length<=zah/\AC.okE s es
 |_=>True
section
variable {h:PH} {ρ:RM}
theorem RepC.ok:∀{x:AC} {v:Value},RepC h ρ x v->x.ok
 |.d x,v,r=>by simp only[RepC]at r;exact RepD.ok _ _ r
 |.ptr _ _,_,_=>trivial
 |.ept _ _ _ _,_,_=>trivial
 |.msl _ _ _ _,_,_=>trivial
 |.map _,_,_=>trivial
 |.fn _ _,_,_=>trivial
 |.op _,_,_=>trivial
theorem zae.ok:∀{cs:List AC} {vs:List Value},zae h ρ cs vs->AC.okL cs
 |[],_,_=>trivial
 |_::_,[],r=>by simp[zae]at r
 |c::cs,v::vs,r=>by
  simp only[zae]at r
  exact⟨r.1.2.ok,r.2.ok⟩
theorem RepV.ok:∀{x:AV} {v:Value},RepV h ρ x v->x.ok
 |.c x,v,r=>by simp only[RepV]at r;exact RepC.ok r
 |.ag cs,v,r=>by
  simp only[RepV]at r
  obtain⟨vs,_,_,r⟩:=r
  exact r.ok
 |.tup _,_,_=>trivial
theorem zat.ok:∀{xs:List AV} {vs:List Value},zat h ρ xs vs->AV.okL xs
 |[],_,_=>trivial
 |_::_,[],r=>by simp[zat]at r
 |x::xs,v::vs,r=>by
  simp only[zat]at r
  exact⟨r.1.ok,r.2.ok⟩
theorem zam.ok{s:Nat}:∀{es:List (List AC)} {vs:List Value},zam h ρ s es vs->AC.okE s es
 |[],_,_=>trivial
 |e::es,vs,r=>by
  simp only[zam]at r
  exact⟨⟨r.1,r.2.1.ok⟩,r.2.2.ok⟩
theorem zaC.ok{p:Nat × Nat}{blk:Blk}{w:Heap}(r:zaC h ρ p blk w):blk.ok:=by
 cases blk with
 |box cs=>obtain⟨vs,T,_,_,r⟩:=r;exact r.ok
 |arr s es=>
  rcases r with⟨_,rfl⟩|⟨vs,T,_,_,_,h4,r⟩
  ·exact⟨by simp,trivial⟩
  ·exact⟨h4,r.ok⟩
 |_=>trivial
theorem zat.len:∀{xs:List AV} {vs:List Value},zat h ρ xs vs->vs.length=xs.length
 |[],vs,r=>by simp only[zat]at r;subst r;rfl
 |_::_,[],r=>by simp[zat]at r
 |x::xs,v::vs,r=>by simp only[zat]at r;simp[r.2.len]
end
def finB(S:St)(l:List Nat):List Nat->List Blk->Prop
 |[],[]=>True
 |j::js,b::bs=>(b=.dead\/S.m j=b.ren (fOf l))/\finB S l js bs
 |_,_=>False
def pinB(S:St)(l:List Nat):List Nat->List Nat->List (Nat × Nat)->List Blk->Prop
 |_,_,[],_=>True
 |j::js,q::qs,t::ts,b::bs=>(b=.dead\/S.m q=.pin t j)/\pinB S l js qs ts bs
 |_,_,_,_=>False
def EndM(v:AV)(bs':List Blk)(ts:List (Nat × Nat))(vs:List AV)(S:St):Prop:=
 ∃l qs:List Nat,l.Nodup/\(∀(h:PH) (ρ:RM) (vC:Value),RepV h ρ (one? vs) vC->RepV h ρ (v.ren (fOf l)) vC)/\finB S l l bs'/\pinB S l l qs ts bs'
theorem EndM.mk{v:AV}{bs':List Blk}{ts:List (Nat × Nat)}{vs:List AV}{S:St}(l qs:List Nat)(h:l.Nodup/\one? vs=v.ren (fOf l)/\finB S l l bs'/\pinB S l l qs ts bs'):EndM v bs' ts vs S:=⟨l,qs,h.1,(fun _ _ _ r=>h.2.1▸r),h.2.2⟩
def endM(rs:List MR)(v:AV)(bs':List Blk)(ts:List (Nat × Nat)):Exit->St->Prop
 |.ret,S|.normal,S=>zgU S rs fun vs=>EndM v bs' ts vs S
 |_,_=>False
@[simp] theorem zBt(rs:List MR)(v:AV)(bs':List Blk)(ts:List (Nat × Nat))(S:St):endM rs v bs' ts .ret S=zhu S rs (fun vs=>EndM v bs' ts vs S) ⟨⟩:=(Eq.refl _).trans rfl
@[simp] theorem zAf(rs:List MR)(v:AV)(bs':List Blk)(ts:List (Nat × Nat))(S:St):endM rs v bs' ts .normal S=zhu S rs (fun vs=>EndM v bs' ts vs S) ⟨⟩:=(Eq.refl _).trans rfl
attribute [simp] argA zcm finB pinB AC.lv AC.lvs AV.lv AV.lvs Blk.lv AC.lvs_D newN zhr wrL atL
theorem zoX:∀(i:Nat) (ts:List (Nat × Nat)),(zcm i ts).length=ts.length
 |_,[]=>rfl
 |i,t::ts=>by simp[zcm,zoX (i+1) ts]
theorem zoY:∀(i:Nat) (ts:List (Nat × Nat)) (j:Nat),(zcm i ts)[j]?=(ts[j]?).map fun t=>.pin t (i+j)
 |_,[],j=>by simp[zcm]
 |i,t::ts,0=>by simp[zcm]
 |i,t::ts,j+1=>by
  simp only[zcm,List.getElem?_cons_succ]
  rw[zoY (i+1) ts j,show i+1+j=i+(j+1) by omega]
theorem zsY{h:PH}{ρ:RM}:∀{ds:List AV} {us:List Value} (i:Nat),zat h ρ ds us->∀k,RepV h ρ (look (argA i ds) k) (if i<=k then us.getD (k-i) undef else undef)
 |[],us,i,_,k=>by simp[argA,look,RepV,RepC,RepD]
 |_::_,[],_,r,_=>by simp[zat]at r
 | d::ds,u::us,i,r,k=>by
  simp only[zat]at r
  simp only[argA,look]
  by_cases hk:k=i
  ·subst hk;simp;exact r.1
  ·rw[if_neg hk]
   have:=zsY (i+1) r.2 k
   by_cases hle:i<=k
   ·rw[if_pos hle]
    rw[if_pos (by omega)]at this
    rw[show k-i=(k-(i+1))+1 from by omega]
    simpa using this
   ·rw[if_neg hle]
    rw[if_neg (by omega)]at this
    exact this
theorem zsZ{S:St}{l:List Nat}:∀{js:List Nat} {bs:List Blk},finB S l js bs->js.length=bs.length/\∀i,i<js.length->hpOf bs i=.dead\/S.m (js.getD i 0)=(hpOf bs i).ren (fOf l)
 |[],[],_=>⟨rfl,fun i hi=>by simp at hi⟩
 |[],_::_,h=>by simp[finB]at h
 |_::_,[],h=>by simp[finB]at h
 |j::js,b::bs,h=>by
  simp only[finB]at h
  obtain⟨h1,h2⟩:=zsZ h.2
  refine⟨by simp[h1],fun i hi=>?_⟩
  cases i with
  |zero=>simpa[hpOf]using h.1
  |succ i=>simpa[hpOf]using h2 i (by simpa using hi)
theorem zs0{S:St}{l:List Nat}:∀{js qs:List Nat} {ts:List (Nat × Nat)} {bs:List Blk},pinB S l js qs ts bs->∀i t,ts[i]?=some t->hpOf bs i=.dead\/∃q,S.m q=.pin t (js.getD i 0)
 |_,_,[],_,_,i,t,e=>by simp at e
 |[],_,_::_,_,h,_,_,_=>by simp[pinB]at h
 |_::_,[],_::_,_,h,_,_,_=>by simp[pinB]at h
 |_::_,_::_,_::_,[],h,_,_,_=>by simp[pinB]at h
 |j::js,q::qs,t::ts,b::bs,h,0,t',e=>by
  simp only[pinB]at h
  simp at e;subst e
  rcases h.1 with h|h
  ·exact .inl (by simpa[hpOf]using h)
  ·exact .inr ⟨q,by simpa using h⟩
 |j::js,q::qs,t::ts,b::bs,h,i+1,t',e=>by
  simp only[pinB]at h
  have:=zs0 h.2 i t' (by simpa using e)
  simpa[hpOf]using this
theorem ziK{bs:List Blk}{i:Nat}(h:i<bs.length):bs[i]?=some (hpOf bs i):=by
 unfold hpOf;rw[List.getD_eq_getElem?_getD,List.getElem?_eq_getElem h];rfl
theorem zbe{bs:List Blk}{i:Nat}(h:bs.length<=i):hpOf bs i=.non:=by
 unfold hpOf;rw[List.getD_eq_getElem?_getD,List.getElem?_eq_none h];rfl
section
variable {P:Program}
theorem MCall.of_walk {f : FuncId} {fn : Func} {code : Code} {mc : MC} {rs : List MR} {args : List AV} {bs : List Blk} {v : AV} {bs' : List Blk} (hf : P.funcs[f]? = some fn) (hb : fn.body = some code) (hname : (fn.name != "runtime.NumGoroutine") = true)
  (hc:chkC P fn.ntmps mc code=true) (hr:chkR P rs fn.results.toList=true) (hn:args.length<=fn.ntmps) (hbs:∀i,i<bs.length->hpOf bs i≠.non) (hle:bs.length<=bs'.length) (hnon:∀i,i<bs'.length->hpOf bs' i≠.non)
  (hnew:∀i,bs.length<=i->i<bs'.length->hpOf bs' i≠.dead) (hvl:v.lv (live bs')=true) (hbl:∀b,b∈bs'->b.lv (live bs')=true)
  (h:∀ts:List (Nat × Nat),ts.length=bs.length->AV.okL args->(∀b,b∈bs->b.ok)->∀c:Ctx,c.N=fn.ntmps->c.pure->AW P c mc (endM rs v bs' ts) ⟨argA 0 args,hpOf (bs++zcm 0 ts),bs.length+ts.length⟩):MCall P f args bs v bs':=by
 refine⟨by unfold callee;rw[hf];simp only[hb];simpa using hname,hle,hnon,hvl,hbl,fun ph ρ0 w us H0 hG ra=>?_⟩
 have hlen:=ra.len
 have some0:∀i,i<bs.length->∃p,ρ0 i=some p:=fun i hi=>by
  cases e:ρ0 i with
  |none=>exact absurd ((H0.dom i).2 e) (hbs i hi)
  |some p=>exact⟨p,rfl⟩
 have none0:∀i,bs.length<=i->ρ0 i=none:=fun i hi=>(H0.dom i).1 (zbe hi)
 let ts:List (Nat × Nat):=(List.range bs.length).map fun i=>(ρ0 i).getD (0,0)
 have hts:ts.length=bs.length:=by simp[ts]
 have tsget:∀i,i<bs.length->∀p,ρ0 i=some p->ts[i]?=some p:=fun i hi p hp=>by
  simp only[ts,List.getElem?_map,List.getElem?_range hi,Option.map_some,hp];rfl
 let ρ1:RM:=fun b=>if b<bs.length then ρ0 b else if b<bs.length+bs.length then ρ0 (b-bs.length)else none
 have m1a:∀b,b<bs.length->hpOf (bs++zcm 0 ts) b=hpOf bs b:=fun b hb=>by
  unfold hpOf;rw[List.getD_eq_getElem?_getD,List.getD_eq_getElem?_getD,List.getElem?_append_left hb]
 have m1b:∀j,j<bs.length->∀p,ρ0 j=some p->hpOf (bs++zcm 0 ts) (bs.length+j)=.pin p j:=fun j hj p hp=>by
  unfold hpOf;rw[List.getD_eq_getElem?_getD,List.getElem?_append_right (by omega),Nat.add_sub_cancel_left,zoY,tsget j hj p hp];simp
 have m1c:∀b,bs.length+bs.length<=b->hpOf (bs++zcm 0 ts) b=.non:=fun b hb=>zbe (by rw[List.length_append,zoX,hts];exact hb)
 have rle:ρ0.le ρ1:=fun b p hp=>by
  have:b<bs.length:=by
   rcases Nat.lt_or_ge b bs.length with h|h
   ·exact h
   ·rw[none0 b h]at hp;cases hp
  show(if b<bs.length then _ else _)=_
  rw[if_pos this];exact hp
 have r1:∀b p,ρ1 b=some p->(b<bs.length/\ρ0 b=some p)\/∃j,j<bs.length/\b=bs.length+j/\ρ0 j=some p:=fun b p hp=>by
  simp only[ρ1]at hp
  split at hp
  ·exact .inl ⟨by assumption,hp⟩
  ·split at hp
   ·exact .inr ⟨b-bs.length,by omega,by omega,hp⟩
   ·cases hp
 have H1:HRel ph ρ1 (hpOf (bs++zcm 0 ts)) w.heap:=by
  refine⟨H0.pers,?_,?_,?_,?_⟩
  ·intro b
   by_cases h1:b<bs.length
   ·rw[m1a b h1,H0.dom];show _↔(if b<bs.length then _ else _)=_;rw[if_pos h1]
   ·by_cases h2:b<bs.length+bs.length
    ·obtain⟨j,rfl⟩:∃j,b=bs.length+j:=⟨b-bs.length,by omega⟩
     obtain⟨p,hp⟩:=some0 j (by omega)
     rw[m1b j (by omega) p hp]
     show _↔(if _ then _ else if _ then ρ0 (bs.length+j-bs.length)else _)=_
     rw[if_neg h1,if_pos h2,Nat.add_sub_cancel_left,hp];simp
    ·rw[m1c b (by omega)]
     show _↔(if _ then _ else if _ then _ else _)=_
     rw[if_neg h1,if_neg h2];simp
  ·intro b p hp
   rcases r1 b p hp with⟨h1,h2⟩|⟨j,h1,rfl,h2⟩
   ·rw[m1a b h1];exact zaC.congr (PH.le_refl ph) rle rfl (H0.own b p h2)
   ·rw[m1b j h1 p h2];exact⟨rfl,rle _ _ h2⟩
  ·intro b c p q hb hc' hrb hrc he
   rcases r1 b p hb with⟨h1,h2⟩|⟨j,h1,rfl,h2⟩
   ·rcases r1 c q hc' with⟨h3,h4⟩|⟨k,h3,rfl,h4⟩
    ·rw[m1a b h1]at hrb;rw[m1a c h3]at hrc
     exact H0.inj b c p q h2 h4 hrb hrc he
    ·rw[m1b k h3 q h4]at hrc;exact hrc.elim
   ·rw[m1b j h1 p h2]at hrb;exact hrb.elim
  ·intro b p hb hrb
   rcases r1 b p hb with⟨h1,h2⟩|⟨j,h1,rfl,h2⟩
   ·rw[m1a b h1]at hrb;exact H0.sep b p h2 hrb
   ·rw[m1b j h1 p h2]at hrb;exact hrb.elim
 let c:Ctx:=⟨ph,ρ0,hpOf bs,w,fn.ntmps⟩
 have hpure:c.pure:=trivial
 have hblk:∀b,b∈bs->b.ok:=fun b hb=>by
  obtain⟨i,hi,rfl⟩:=List.getElem_of_mem hb
  obtain⟨p,hp⟩:=some0 i hi
  have:=(H0.own i p hp).ok
  rwa[show hpOf bs i=bs[i] by unfold hpOf;rw[List.getD_eq_getElem?_getD,List.getElem?_eq_getElem hi];rfl]at this
 refine calls_of_wp hf hb (wp_mono (h ts hts ra.ok hblk c rfl hpure code hc _ w ?_) fun e a' w' ⟨S',r',q⟩=>?_)
 ·refine⟨hG,rfl,?_,ph,ρ1,H1,⟨PH.le_refl ph,fun B _ _=>rfl,Nat.le_refl _,fun B _ _=>rfl,?_⟩,Same.refl w,fun k=>?_⟩
  ·simp[c];omega
  ·intro b p hb hrb
   rcases r1 b p hb with⟨h1,h2⟩|⟨j,h1,rfl,h2⟩
   ·have hrb:Real (hpOf (bs++zcm 0 ts) b) p:=hrb
    rw[m1a b h1]at hrb;exact .inr ⟨b,p,h2,hrb,rfl⟩
   ·have hrb:Real (hpOf (bs++zcm 0 ts) (bs.length+j)) p:=hrb
    rw[m1b j h1 p h2]at hrb;exact hrb.elim
  ·show RepV ph ρ1 (look (argA 0 args) k) _
   have ra1:zat ph ρ1 args us:=zat.mono (PH.le_refl ph) rle _ _ ra
   have:=zsY 0 ra1 k
   simp only[Nat.zero_le,if_true,Nat.sub_zero]at this
   have e1:(us.toArray++Array.replicate (fn.ntmps-us.toArray.size) undef).getD k undef=us.getD k undef:=by
    rw[Array.getD_eq_getD_getElem?,List.getD_eq_getElem?_getD,Array.getElem?_append]
    split
    ·simp
    ·rename_i hh
     rw[List.getElem?_eq_none (by simpa using hh)]
     simp only[Array.getElem?_replicate]
     split<;>rfl
   rw[e1]
   exact this
 ·obtain⟨ph',ρS,H,S0,e0,hg⟩:=r'.ex
  have fin:zgU S' rs (fun vs=>EndM v bs' ts vs S')->∃vC,(results fn a'.tmps).run P w'=.ok vC w'/\∃(vC':Value) (h':PH) (ρ':RM),Ending.returned vC=.returned vC'/\zey ph ρ0 (hpOf bs) w.heap h' ρ' (hpOf bs') w'.heap/\HRel h' ρ' (hpOf bs') w'.heap/\Same w w'/\RepV h' ρ' v vC'/\
    ∀i,i<bs.length->ρ' i=ρ0 i:=by
   intro hk
   obtain⟨vs,⟨l,qs,lnd,kv,kf,kp⟩,F⟩:=zlJ hr hk
   obtain⟨us',g1,g2⟩:=F (a:=a') H hg
   have hres:Runs P (results fn a'.tmps) w' (oneV us') w':=by
    unfold results
    refine Runs.bind (a:=us'.toArray) (w':=w') ?_ ?_
    ·rw[Array.mapM_eq_mapM_toList]
     exact g1.map (f:=List.toArray)
    ·cases us' with
     |nil=>exact Runs.pure _
     |cons u us'=>
      cases us' with
      |nil=>exact Runs.pure _
      |cons u' us'=>exact Runs.pure _
   have hrep:RepV ph' ρS (one? vs) (oneV us'):=by
    cases vs with
    |nil=>
     simp only[zat]at g2;subst g2
     simp only[one?,RepV]
     exact⟨[],rfl,rfl⟩
    | cons x xs=>
     cases us' with
     |nil=>simp[zat]at g2
     | cons u us'=>
      cases xs with
      |nil=>
       simp only[zat]at g2
       rw[g2.2]
       exact g2.1
      | cons y ys=>
       cases us' with
       |nil=>simp[zat]at g2
       |cons u' us'=>
        simp only[one?,RepV]
        exact⟨_,rfl,g2⟩
   have hrep:=kv _ _ _ hrep
   obtain⟨kl,kf⟩:=zsZ kf
   -- which numbers are live
   have lv_:∀i,live bs' i=true↔i<bs'.length/\hpOf bs' i≠.dead:=by
    intro i
    unfold live
    rcases Nat.lt_or_ge i bs'.length with hi|hi
    ·rw[ziK hi]
     have:=hnon i hi
     cases e:hpOf bs' i<;>simp_all
    ·rw[List.getElem?_eq_none hi];simp;omega
   let ρ2:RM:=fun i=>if i<bs.length then ρ0 i else if i<bs'.length then ρS (fOf l i)else none
   have mS:∀i,live bs' i=true->S'.m (fOf l i)=(hpOf bs' i).ren (fOf l):=fun i hi=>by
    obtain⟨h1,h2⟩:=(lv_ i).1 hi
    exact(kf i (by omega)).resolve_left h2
   have rS:∀i,live bs' i=true->ρ2 i=ρS (fOf l i):=fun i hi=>by
    obtain⟨h1,h2⟩:=(lv_ i).1 hi
    show(if i<bs.length then _ else _)=_
    by_cases hib:i<bs.length
    ·rw[if_pos hib]
     obtain⟨p,hp⟩:=some0 i hib
     obtain⟨q,hq⟩:=(zs0 kp i p (tsget i hib p hp)).resolve_left h2
     cases e:ρS q with
     |none=>rw[(H.dom q).2 e]at hq;cases hq
     |some t=>
      have:=H.own q t e
      rw[hq]at this
      rw[hp];exact this.2.symm
    ·rw[if_neg hib,if_pos h1]
   have mvH:∀b q,live bs' b=true->ρS (fOf l b)=some q->ρ2 (id b)=some q:=fun b q hb hq=>by rw[<-rS b hb]at hq;exact hq
   have linj:∀i j,i<bs'.length->j<bs'.length->fOf l i=fOf l j->i=j:=by
    intro i j h1 h2 e
    unfold fOf at e
    rw[List.getD_eq_getElem?_getD,List.getD_eq_getElem?_getD,List.getElem?_eq_getElem (by omega),List.getElem?_eq_getElem (by omega)]at e
    simp only[Option.getD_some]at e
    exact(List.getElem?_inj (by omega) lnd).1 (by rw[List.getElem?_eq_getElem (by omega),List.getElem?_eq_getElem (by omega),e])
   have real_:∀b p,ρ2 b=some p->Real (hpOf bs' b) p->live bs' b=true/\b<bs'.length:=fun b p hp hr=>by
    have hb:b<bs'.length:=by
     rcases Nat.lt_or_ge b bs'.length with h|h
     ·exact h
     ·rw[zbe h]at hr;exact hr.elim
    exact⟨(lv_ b).2 ⟨hb,fun e=>by rw[e]at hr;exact hr⟩,hb⟩
   have H2:HRel ph' ρ2 (hpOf bs') w'.heap:=by
    refine⟨H.pers,?_,?_,?_,?_⟩
    ·intro b
     by_cases h1:b<bs.length
     ·obtain⟨p,hp⟩:=some0 b h1
      show _↔(if b<bs.length then _ else _)=_
      rw[if_pos h1,hp]
      simp[hnon b (by omega)]
     ·by_cases h2:b<bs'.length
      ·have hl:=(lv_ b).2 ⟨h2,hnew b (by omega) h2⟩
       rw[rS b hl,<-H.dom,mS b hl]
       cases hpOf bs' b<;>simp[Blk.ren]
      ·rw[zbe (by omega)]
       show _↔(if _ then _ else if _ then _ else _)=_
       rw[if_neg h1,if_neg h2];simp
    ·intro b p hp
     by_cases hd:hpOf bs' b=.dead
     ·rw[hd];trivial
     ·have hb:b<bs'.length:=by
       rcases Nat.lt_or_ge b bs'.length with h|h
       ·exact h
       ·have h1:¬b<bs.length:=by omega
        simp only[ρ2]at hp
        rw[if_neg h1,if_neg (by omega)]at hp;cases hp
      have hl:=(lv_ b).2 ⟨hb,hd⟩
      rw[rS b hl]at hp
      have:=H.own _ p hp
      rw[mS b hl]at this
      have h3:=zaC.mv (f2:=id) mvH (hbl _ (List.mem_of_getElem? (ziK hb))) this
      rwa[Blk.ren_id]at h3
    ·intro b c' p q hb hc' hrb hrc he
     obtain⟨l1,b1⟩:=real_ b p hb hrb
     obtain⟨l2,b2⟩:=real_ c' q hc' hrc
     rw[rS b l1]at hb;rw[rS c' l2]at hc'
     exact linj b c' b1 b2 (H.inj _ _ p q hb hc' (by rw[mS b l1];exact Real.ren.2 hrb) (by rw[mS c' l2];exact Real.ren.2 hrc) he)
    ·intro b p hb hrb
     obtain⟨l1,b1⟩:=real_ b p hb hrb
     rw[rS b l1]at hb
     exact H.sep _ p hb (by rw[mS b l1];exact Real.ren.2 hrb)
   refine⟨_,hres,_,ph',ρ2,rfl,⟨S0.hle,S0.hlow,S0.size,S0.frame,?_⟩,H2,e0,?_,?_⟩
   ·intro b p hb hrb
    obtain⟨l1,b1⟩:=real_ b p hb hrb
    rw[rS b l1]at hb
    exact S0.own _ p hb (by rw[mS b l1];exact Real.ren.2 hrb)
   ·have:=RepV.mv (f2:=id) mvH v _ hvl hrep
    rwa[AV.ren_id]at this
   ·intro i hi
    show(if i<bs.length then _ else _)=_
    rw[if_pos hi]
  cases e with
  |normal=>exact⟨r'.defers,fin q⟩
  |ret=>exact⟨r'.defers,fin q⟩
  |exit _=>exact q.elim
  |goto _=>exact q.elim
  |panic _=>exact q.elim
  |outgrown=>exact q.elim
end
end Go.Abs
namespace Go.Abs
def zaa(P:Program)(f:FuncId)(vs:List AV)(m:Hp)(n:Nat)(K:AV->List Nat->List (Nat × Blk)->Nat->Prop)(_:Tag K):Prop:=mcallB P f vs m n K
theorem zaa.mk{P:Program}{f:FuncId}{vs:List AV}{m:Hp}{n:Nat}{K:AV->List Nat->List (Nat × Blk)->Nat->Prop}{g:Tag K}(l:List Nat){args:List AV}{bs:List Blk}{v:AV}{bs':List Blk}(h:MCall P f args bs v bs')
  (hs:l.Nodup/\(∀i,i∈l->i<n)/\vs=AV.rens (fOf l) args/\AV.lts l.length args=true/\(∀b,b∈bs->b.lt l.length=true)/\atL m (fOf l) l bs/\zhr m n (bs'.length-bs.length))
  (k:K (v.ren (fOf (l++newN n (bs'.length-bs.length)))) [] (wrL (fOf (l++newN n (bs'.length-bs.length))) (l++newN n (bs'.length-bs.length)) bs') (n+(bs'.length-bs.length))):zaa P f vs m n K g:=
 ⟨l,args,bs,v,bs',h,hs.1,hs.2.1,hs.2.2.1,hs.2.2.2.1,hs.2.2.2.2.1,hs.2.2.2.2.2.1,hs.2.2.2.2.2.2,k⟩
section
variable {P:Program} {get:Nat->AV} {m:Hp} {n:Nat} {K:AV->List Nat->List (Nat × Blk)->Nat->Prop}
@[simp] theorem zAV(f:FuncId)(xs:List MX){g}:eV P K (.callM f xs) g get m n=zaa P f (xs.map (X get)) m n K ⟨⟩:=(Eq.refl _).trans rfl
end
def Blk.tag:Blk->Nat
 |.non=>0
 |.dead=>1
 |_=>2
attribute [simp] Blk.tag
def MStat(args:List AV)(N:Nat)(bs:List Blk)(v:AV)(bs':List Blk):Prop:=
 args.length<=N/\(bs.all fun b=>b.tag !=0)=true/\bs.length<=bs'.length/\(bs'.all fun b=>b.tag !=0)=true/\((bs'.drop bs.length).all fun b=>b.tag==2)=true/\v.lv (live bs')=true/\(bs'.all fun b=>b.lv (live bs'))=true
theorem zhd{bs:List Blk}(h:(bs.all fun b=>b.tag !=0)=true)(i:Nat)(hi:i<bs.length):hpOf bs i≠.non:=by
 intro e
 have:=List.all_eq_true.1 h _ (List.mem_of_getElem? (ziK hi))
 rw[e]at this;simp at this
theorem zwu{bs:List Blk}{k:Nat}(h:((bs.drop k).all fun b=>b.tag==2)=true)(i:Nat)(hk:k<=i)(hi:i<bs.length):hpOf bs i≠.dead:=by
 intro e
 have hm:hpOf bs i∈bs.drop k:=by
  refine List.mem_of_getElem? (i:=i-k) ?_
  rw[List.getElem?_drop,show k+(i-k)=i by omega]
  exact ziK hi
 have:=List.all_eq_true.1 h _ hm
 rw[e]at this;simp at this
theorem MCall.of_walk' {P : Program} {f : FuncId} {fn : Func} {code : Code} {mc : MC} {rs : List MR} {args : List AV} {bs : List Blk} {v : AV} {bs' : List Blk} (hf : P.funcs[f]? = some fn) (hb : fn.body = some code) (hname : (fn.name != "runtime.NumGoroutine") = true)
  (hc:chkC P fn.ntmps mc code=true) (hr:chkR P rs fn.results.toList=true) (hm:P.follows .mixedOrders=true) (hs:MStat args fn.ntmps bs v bs')
  (h:∀ts:List (Nat × Nat),ts.length=bs.length->AV.okL args->(∀b,b∈bs->b.ok)->∀c:Ctx,c.N=fn.ntmps->c.pure->w_ P c mc (endM rs v bs' ts) ⟨⟩ ⟨argA 0 args,hpOf (bs++zcm 0 ts),bs.length+ts.length⟩):MCall P f args bs v bs':=
 MCall.of_walk hf hb hname hc hr hs.1 (zhd hs.2.1) hs.2.2.1 (zhd hs.2.2.2.1) (zwu hs.2.2.2.2.1) hs.2.2.2.2.2.1 (fun b hb=>List.all_eq_true.1 hs.2.2.2.2.2.2 b hb) fun ts h1 h2 h3 c h4 h5=>W.aw hm (zso (h ts h1 h2 h3 c h4 h5))
end Go.Abs
namespace Go.Abs
theorem MCall.frz{P:Program}{f:FuncId}{args:List AV}{bs:List Blk}{ds:List DV}{d:D}(hp:PCall P f ds (.one d))(hd:∀(h h':PH) (v:Value),RepD h d v->RepD h' d v)(e:zfP (hpOf bs) args=some ds)
  (h1:∀i,i<bs.length->hpOf bs i≠.non) (h2:(bs.all fun b=>b.lv (live bs))=true):MCall P f args bs (.c (.d d)) bs:=by
 refine⟨hp.1,Nat.le_refl _,h1,rfl,fun b hb=>List.all_eq_true.1 h2 b hb,fun h ρ w argsC H hG r=>?_⟩
 have k:=ziv (n:=0) H (fun _ _ _ _=>Nat.zero_le _) args ds argsC e r
 refine(hp.2 (zbp h 0 w.heap) w argsC (zgm H) (hG.mono (zet H)) k).mono fun e w' hh=>?_
 obtain⟨vC,h',e1,e2,e3,e4,e5,e6,e7,e8⟩:=hh
 have hx:∀B,B<w.heap.size->w'.heap[B]?=w.heap[B]?:=e6
 have hP:∀B o,h B=some o->w'.heap[B]?=some o:=fun B o he=>by
  rw[e6 B (H.lt he)];exact H.pers B o he
 refine⟨vC,h,ρ,e1,⟨fun _ _ he=>he,fun B hB _=>rfl,e5,fun B hB _=>e6 B hB,fun b p hp hr=>.inr ⟨b,p,hp,hr,rfl⟩⟩,H.grow (fun _ _ he=>he) hP (fun B hB _=>⟨e6 B hB,rfl⟩),e7,?_,fun _ _=>rfl⟩
 simp only[zaJ]at e8
 simp only[RepV,RepC]
 exact hd _ _ _ e8
theorem MCall.frzI{P:Program}{f:FuncId}{args:List AV}{bs:List Blk}{ds:List DV}{k:IntKind}{i:Int}(hp:PCall P f ds (.one (.int k i)))(e:zfP (hpOf bs) args=some ds)
  (h1:(bs.all fun b=>b.tag !=0)=true) (h2:(bs.all fun b=>b.lv (live bs))=true):MCall P f args bs (.c (.d (.int k i))) bs:=
 MCall.frz hp (fun h h' v r=>by simpa[RepD]using r) e (zhd h1) h2
end Go.Abs
namespace Go.Abs
mutual
def D.erd:D->D
 |.sl _ s es=>.sl false s (D.erdE es)
 |.any=>.any
 |.int k n=>.int k n
 |.bool b=>.bool b
 |.str s=>.str s
 |.sc v=>.sc v
 |.rp cs o=>.rp (D.erdL cs) o
 |.fn f c=>.fn f c
 |.ifc t a c=>.ifc t a c
def D.erdL:List D->List D
 |[]=>[]
 |d::ds=>d.erd::D.erdL ds
def D.erdE:List (List D)->List (List D)
 |[]=>[]
 |e::es=>D.erdL e::D.erdE es
end
theorem D.erdL_length:∀ds:List D,(D.erdL ds).length=ds.length
 |[]=>rfl
 |d::ds=>by simp[D.erdL,D.erdL_length ds]
theorem D.erdE_length:∀es:List (List D),(D.erdE es).length=es.length
 |[]=>rfl
 |d::ds=>by simp[D.erdE,D.erdE_length ds]
mutual
theorem RepD.erd{h:PH}:∀(d:D) (v:Value),RepD h d v->RepD h d.erd v
 |.sl x s es,v,r=>by
  simp only[D.erd]
  simp only[RepD]at r⊢
  obtain⟨a,cap,r1,r2,r3,r4,r5,r6,r7⟩:=r
  refine⟨a,cap,by rw[r1,D.erdE_length],by rw[D.erdE_length];exact r2,(fun h=>by cases h),by rw[D.erdE_length];exact r4,(fun ha=>⟨?_,(r5 ha).2⟩),r6,RepE.erd s es _ r7⟩
  rw[(r5 ha).1];rfl
 |.any,v,r=>by simp only[D.erd];exact r
 |.int k n,v,r=>by simp only[D.erd];exact r
 |.bool b,v,r=>by simp only[D.erd];exact r
 |.str s,v,r=>by simp only[D.erd];exact r
 |.sc u,v,r=>by simp only[D.erd];exact r
 |.rp cs o,v,r=>by
  simp only[D.erd]
  simp only[RepD]at r⊢
  obtain⟨B,o',e1,e2⟩:=r
  exact⟨B,o',e1,RepL.erd _ _ e2⟩
 |.fn f c,v,r=>by simp only[D.erd];exact r
 |.ifc t a c,v,r=>by simp only[D.erd];exact r
theorem RepL.erd{h:PH}:∀(ds:List D) (vs:List Value),RepL h ds vs->RepL h (D.erdL ds) vs
 |[],vs,r=>by simp[D.erdL,RepL]
 |_::_,[],r=>by simp[RepL]at r
 |d::ds,v::vs,r=>by
  simp only[RepL]at r
  simp only[D.erdL,RepL]
  exact⟨⟨r.1.1,RepD.erd d v r.1.2⟩,RepL.erd ds vs r.2⟩
theorem RepE.erd{h:PH}(s:Nat):∀(es:List (List D)) (vs:List Value),RepE h s es vs->RepE h s (D.erdE es) vs
 |[],vs,r=>by simp[D.erdE,RepE]
 |e::es,vs,r=>by
  simp only[RepE]at r
  simp only[D.erdE,RepE]
  exact⟨by rw[D.erdL_length];exact r.1,RepL.erd e vs r.2.1,RepE.erd s es _ r.2.2⟩
end
mutual
def DV.erd:DV->DV
 |.one x=>.one x.erd
 |.agg cs=>.agg (D.erdL cs)
 |.tup vs=>.tup (DV.erds vs)
def DV.erds:List DV->List DV
 |[]=>[]
 |v::vs=>v.erd::DV.erds vs
end
mutual
theorem zaJ.erd{h:PH}:∀{d:DV} {v:Value},zaJ h d v->zaJ h d.erd v
 |.one x,v,r=>by simp only[zaJ,DV.erd]at r⊢;exact RepD.erd _ _ r
 |.agg cs,v,r=>by
  simp only[zaJ,DV.erd]at r⊢
  obtain⟨vs,r1,r2,r3⟩:=r
  exact⟨vs,r1,by rw[r2,D.erdL_length],RepL.erd _ _ r3⟩
 |.tup xs,v,r=>by
  simp only[zaJ,DV.erd]at r⊢
  obtain⟨vs,r1,r2⟩:=r
  exact⟨vs,r1,zaw.erds r2⟩
theorem zaw.erds{h:PH}:∀{ds:List DV} {vs:List Value},zaw h ds vs->zaw h (DV.erds ds) vs
 |[],_,r=>by simpa[zaw,DV.erds]using r
 |_::_,[],r=>by simp[zaw]at r
 |d::ds,v::vs,r=>by
  simp only[zaw]at r
  simp only[DV.erds,zaw]
  exact⟨zaJ.erd r.1,zaw.erds r.2⟩
end
theorem PCall.erd{P:Program}{f:FuncId}{args args':List DV}{v:DV}(h:PCall P f args' v)(e:DV.erds args=args'):PCall P f args v:=by
 subst e
 exact⟨h.1,fun ph w us hp hG r=>h.2 ph w us hp hG (zaw.erds r)⟩
theorem zlp:∀(a b:List (List D)),D.erdE (a++b)=D.erdE a++D.erdE b
 |[],b=>by simp[D.erdE]
 |x::a,b=>by simp[D.erdE,zlp a b]
end Go.Abs
namespace Go.Abs
end Go.Abs
namespace Go.Abs
def AC.erd:AC->AC
 |.d x=>.d x.erd
 |c=>c
mutual
def AV.erd:AV->AV
 |.c x=>.c x.erd
 |.ag cs=>.ag (cs.map AC.erd)
 |.tup vs=>.tup (AV.erds vs)
def AV.erds:List AV->List AV
 |[]=>[]
 |v::vs=>AV.erd v::AV.erds vs
end
theorem RepC.erd{h:PH}{ρ:RM}:∀{x:AC} {v:Value},RepC h ρ x v->RepC h ρ x.erd v
 |.d x,v,r=>by simp only[RepC,AC.erd]at r⊢;exact RepD.erd _ _ r
 |.ptr _ _,_,r=>r
 |.ept _ _ _ _,_,r=>r
 |.msl _ _ _ _,_,r=>r
 |.map _,_,r=>r
 |.fn _ _,_,r=>r
 |.op _,_,r=>r
theorem zae.erd{h:PH}{ρ:RM}:∀{cs:List AC} {vs:List Value},zae h ρ cs vs->zae h ρ (cs.map AC.erd) vs
 |[],vs,r=>by simp[zae]
 |_::_,[],r=>by simp[zae]at r
 |c::cs,v::vs,r=>by
  simp only[zae,List.map_cons]at r⊢
  exact⟨⟨r.1.1,RepC.erd r.1.2⟩,zae.erd r.2⟩
mutual
theorem RepV.erd{h:PH}{ρ:RM}:∀{x:AV} {v:Value},RepV h ρ x v->RepV h ρ x.erd v
 |.c x,v,r=>by simp only[RepV,AV.erd]at r⊢;exact RepC.erd r
 |.ag cs,v,r=>by
  simp only[RepV,AV.erd]at r⊢
  obtain⟨vs,h1,h2,h3⟩:=r
  exact⟨vs,h1,by simpa using h2,zae.erd h3⟩
 |.tup xs,v,r=>by
  simp only[RepV,AV.erd]at r⊢
  obtain⟨vs,h1,h2⟩:=r
  exact⟨vs,h1,zat.erds h2⟩
theorem zat.erds{h:PH}{ρ:RM}:∀{xs:List AV} {vs:List Value},zat h ρ xs vs->zat h ρ (AV.erds xs) vs
 |[],vs,r=>by simpa[zat,AV.erds]using r
 |_::_,[],r=>by simp[zat]at r
 |x::xs,v::vs,r=>by
  simp only[zat,AV.erds]at r⊢
  exact⟨RepV.erd r.1,zat.erds r.2⟩
end
theorem EndM.mkE{v:AV}{bs':List Blk}{ts:List (Nat × Nat)}{vs:List AV}{S:St}(l qs:List Nat)(h:l.Nodup/\(one? vs).erd=v.ren (fOf l)/\finB S l l bs'/\pinB S l l qs ts bs'):EndM v bs' ts vs S:=
 ⟨l,qs,h.1,(fun _ _ _ r=>h.2.1▸RepV.erd r),h.2.2⟩
end Go.Abs
namespace Go.Abs
def bs(l:List Nat):ByteArray:=⟨(l.map UInt8.ofNat).toArray⟩
inductive TY where
 |i (k:IntKind)|s|b|o (x:D) (n:Nat)|l (e:Nat)|r (z y:Nat) (f:List Nat)|a (z n e:Nat)|m (k e:Nat)
def gJ{α:Type}:List α->List α->List α
 |[],r=>r
 |x::l,r=>x::gJ l r
def gAt{α:Type}(x:α):List α->Nat->α
 |[],_=>x
 |y::_,0=>y
 |_::l,n+1=>gAt x l n
def gFl(f:Nat->List D):List Nat->List D
 |[]=>[]
 |x::l=>gJ (f x) (gFl f l)
def gSz:TY->Nat
 |.r z _ _=>z
 |.a z _ _=>z
 |_=>1
def gAg:TY->Bool
 |.r _ _ _=>true
 |.a _ _ _=>true
 |_=>false
def gBy:TY->Nat
 |.i .u8=>1
 |.i _=>8
 |.s=>16
 |.b=>1
 |.o _ n=>n
 |.l _=>24
 |.r _ y _=>y
 |_=>8
section
variable (T:Nat->TY)
def gEl:TY->Nat
 |.l e=>gSz (T e)
 |_=>0
def gRep:Nat->List D->List D
 |0,_=>[]
 |n+1,l=>gJ l (gRep n l)
def gZ:Nat->TY->List D
 |_,.i k=>[.int k 0]
 |_,.s=>[.str (bs [])]
 |_,.b=>[.bool false]
 |_,.o x _=>[x]
 |_,.l e=>[.sl true (gSz (T e)) []]
 |n+1,.r _ _ f=>gFl (fun t=>gZ n (T t)) f
 |n+1,.a _ k e=>gRep k (gZ n (T e))
 |_,_=>[.sc (.map none)]
def gNl:List UInt8->List Nat
 |[]=>[]
 |c::l=>c.toNat::gNl l
def gV(t:TY):Value->D
 |.bool b=>.bool b
 |.int k n=>.int k n
 |.string ⟨⟨l⟩⟩=>.str (bs (gNl l))
 |.pointer _=>.sc (.pointer none)
 |.nilFunc=>.sc .nilFunc
 |.nilIface=>.sc .nilIface
 |.map _=>.sc (.map none)
 |.slice _ _ _=>.sl true (gEl T t) []
 |_=>.any
def gX(t:TY):Operand->MX
 |.tmp k=>.t k
 |.func f=>.k (.fn (.func f) [])
 |.const v=>.k (gV T t v)
 |_=>.k .any
def gXs:List Operand->List Nat->List MX
 |x::l,t::ts=>gX T (T t) x::gXs l ts
 |x::l,[]=>gX T .s x::gXs l []
 |[],_=>[]
def gO:Option Operand->Option MX
 |none=>none
 |some x=>some (gX T .s x)
def gH(k d:Nat):List (Nat × Nat)->Bool
 |[]=>false
 |x::l=>match x.1==k,x.2==d with
  |true,true=>true
  |_,_=>gH k d l
def gKk:TY->Nat
 |.s=>1
 |.b=>2
 |_=>0
def gFo:Nat->List Nat->Nat × Nat
 |0,t::_=>(0,t)
 |n+1,t::l=>match gFo n l with|(o,u)=>(gSz (T t)+o,u)
 |_,[]=>(0,0)
def gFs:List Nat->List (Nat × Operand)->List (Nat × Nat × MX)
 |_,[]=>[]
 |f,(i,x)::l=>match gFo T i f with|(o,u)=>(o,gSz (T u),gX T (T u) x)::gFs f l
def gEs(e:Nat):List (Nat × Operand)->List (Nat × Nat × MX)
 |[]=>[]
 |(i,x)::l=>(i*gSz (T e),gSz (T e),gX T (T e) x)::gEs e l
def gSs(e:Nat):List (Nat × Operand)->List MX
 |[]=>[]
 |(_,x)::l=>gX T (T e) x::gSs e l
def gEq:List Nat->List Nat
 |[]=>[]
 |t::l=>gKk (T t)::gEq l
def gBad:MOp:=.mv (.k .any)
def gBin(op:BinOp)(x y:Operand):TY->MOp
 |.s=>match op with
  |.add=>.cat (gX T .s x) (gX T .s y)
  |_=>.binS op (gX T .s x) (gX T .s y)
 |.b=>.binB op (gX T .s x) (gX T .s y)
 |.i _=>match op with
  |.quo=>.divI op (gX T .s x) (gX T .s y)
  |.rem=>.divI op (gX T .s x) (gX T .s y)
  |_=>.binI op (gX T .s x) (gX T .s y)
 |.r _ _ f=>.eqAg (match op with|.neq=>true|_=>false) (gEq T f) (gX T .s x) (gX T .s y)
 |.l _=>.isNil (match op with|.neq=>true|_=>false) (gX T .s x)
 |.o _ _=>.isNilP (match op with|.neq=>true|_=>false) (gX T .s x)
 |_=>gBad
def zyu(E:List (Nat × Nat))(d:Nat):Callee->List Operand->List Nat->MOp
 | .value (.func f),xs,ts=>match gH 8 f E,xs with
  |true,[x,y]=>.cmpS f (gX T .s x) (gX T .s y)
  |_,_=>match gH 3 d E,gH 9 f E with
   |false,false=>.call f (gXs T xs ts)
   |_,_=>.callM f (gXs T xs ts)
 |.value f,xs,_=>match gH 2 d E with
  |true=>.calldM (gX T .s f) (gXs T xs [])
  |false=>.calld (gX T .s f) (gXs T xs [])
 |.builtin .len,[x],[t]=>match T t with
  |.s=>.lenS (gX T .s x)
  |.m _ _=>.mlen (gX T .s x)
  |_=>.len (gX T .s x)
 |.builtin .append,[x,y],[t,u]=>match T t with
  |.l e=>.append (gSz (T e)) (gBy (T e)) (gX T (.l e) x) (gX T (T u) y)
  |_=>gBad
 |.builtin .delete,x::y::_,t::_=>match T t with
  |.m k _=>.mdel (gKk (T k)) (gX T .s x) (gX T .s y)
  |_=>gBad
 |.builtin .min,[x,y],_=>.minI false (gX T .s x) (gX T .s y)
 |.builtin .max,[x,y],_=>.minI true (gX T .s x) (gX T .s y)
 |_,_,_=>gBad
def gOp(E:List (Nat × Nat))(d ty:Nat):Go.Op->MOp
 |.move x=>.mv (gX T (T ty) x)
 |.assign x=>.mv (gX T (T ty) x)
 |.pick c a b=>.pick (gX T .s c) (gX T (T ty) a) (gX T (T ty) b)
 |.alloc t=>.alloc (gZ T 9 (T t))
 |.box t v=>match gH 0 d E with
  |true=>.boxM (gX T (T t) v)
  |false=>.boxP (gX T (T t) v)
 |.build t ⟨ps⟩=>match T t with
  |.r z y f=>.build (gZ T 9 (.r z y f)) (gFs T f ps)
  |.a z n e=>.build (gZ T 9 (.a z n e)) (gEs T e ps)
  |_=>gBad
 |.buildSlice t _ ⟨ps⟩=>match T t,gH 1 d E with
  |.l e,true=>.buildSlM (gSz (T e)) (gSs T e ps)
  |.l e,false=>.buildSl (gSz (T e)) (gSs T e ps)
  |_,_=>gBad
 |.load t x=>.load (gAg (T t)) (gSz (T t)) (gX T .s x)
 |.store t x v=>.store (gSz (T t)) (gX T .s x) (gX T (T t) v)
 |.nilCheck x=>.nilck (gX T .s x)
 |.binOp op t x y _=>gBin T op x y (T t)
 |.unOp op _ x=>match op with
  |.not=>.not (gX T .s x)
  |_=>.neg (gX T .s x)
 |.convert _ t x=>match T t with
  |.i k=>.convI k (gX T .s x)
  |_=>gBad
 |.slice t x l h m=>match T t,m with
  |.s,_=>.sliceS (gX T .s x) (gO T l) (gO T h)
  |.l e,none=>.slice (gSz (T e)) (gX T (.l e) x) (gO T l) (gO T h)
  |.l e,some _=>.slice00 (gSz (T e)) (gX T (.l e) x)
  |_,_=>gBad
 |.fieldAddr t x i=>match T t with
  |.r _ _ f=>match gFo T i f with|(o,_)=>.faddr o (gX T .s x)
  |_=>gBad
 |.field t x i=>match T t with
  |.r _ _ f=>match gFo T i f with|(o,u)=>.field (gAg (T u)) o (gSz (T u)) (gX T .s x)
  |_=>gBad
 |.indexAddr t x i=>match T t with
  |.a _ n e=>.iaddrA n (gSz (T e)) (gX T .s x) (gX T .s i)
  |.l e=>.iaddrS (gSz (T e)) (gX T .s x) (gX T .s i)
  |_=>gBad
 |.index t x i=>match T t with
  |.s=>.idxS (gX T .s x) (gX T .s i)
  |.a _ n e=>.idxA (gAg (T e)) n (gSz (T e)) (gX T .s x) (gX T .s i)
  |_=>gBad
 |.makeFunc (.func g) _ ⟨xs⟩=>.mkfn g (gXs T xs [])
 |.extract t i=>.extract (gX T .s t) i
 |.call ⟨c,⟨xs⟩,⟨ts⟩⟩=>zyu T E d c xs ts
 |.makeMap _ _=>.mkmap
 |.mapUpdate t x k v=>match T t with
  |.m a e=>.mset (gKk (T a)) (gX T .s x) (gX T .s k) (gX T (T e) v)
  |_=>gBad
 |.insert t x k v=>match T t with
  |.m a e=>.mset (gKk (T a)) (gX T .s x) (gX T .s k) (gX T (T e) v)
  |_=>gBad
 |.lookup t x k ok=>match T t with
  |.m a e=>.mlook (gKk (T a)) ok (gAg (T e)) (gZ T 9 (T e)) (gX T .s x) (gX T .s k)
  |_=>gBad
 |.makeSlice t l c=>match T t,gH 1 d E with
  |.l e,true=>.mkslM (gZ T 9 (T e)) (gBy (T e)) (gX T .s l) (gX T .s c)
  |.l e,false=>.mksl (gZ T 9 (T e)) (gBy (T e)) (gX T .s l)
  |_,_=>gBad
 |_=>gBad
def gDn:Nat->List Oper->Nat
 |0,o::_=>o.dst.getD 0
 |n+1,_::l=>gDn n l
 |_,[]=>0
def gMO(E:List (Nat × Nat))(all:List Oper):List Oper->List MO
 |[]=>[]
 |⟨d,op,ty,_,_,g⟩::l=>⟨match g with|none=>none|some (j,b)=>some (gDn j all,b),d,gOp T E (d.getD 10000) ty op⟩::gMO E all l
def gAny(k:Nat)(E:List (Nat × Nat)):List Oper->Bool
 |[]=>false
 |o::l=>match gH k (o.dst.getD 10000) E with
  |true=>true
  |false=>gAny k E l
def gW(x:Bool)(f:MC->MC)(c:MC):MC:=match x with
 |true=>f c
 |false=>c
def gL{α:Type}(x:α):List (Nat × α)->Nat->α
 |[],_=>x
 |(i,y)::l,k=>match i==k with
  |true=>y
  |false=>gL x l k
def gC(E:List (Nat × Nat))(B:List (Nat × List Nat))(L:List (Nat × MC)):Code->MC
 |.skip=>.skip
 |.block i (.loop _)=>gW (gH 6 i E) .owq (.block i (.loop (gL .skip L i)))
 |.region i ⟨os⟩ d=>gW (gAny 5 E os) .owq (gW (gAny 4 E os) .fzq (match d with
  |true=>.regd (gL [] B i) (gMO T E os os)
  |false=>.reg (gMO T E os os)))
 |.seq a b=>.seq (gC E B L a) (gC E B L b)
 |.cond c a b=>.cond (gX T .s c) (gC E B L a) (gC E B L b)
 |.block i b=>.block i (gC E B L b)
 |.loop b=>.loop (gC E B L b)
 |.exit i=>.exit i
 |.ret=>gW (gH 7 1 E) .fzq (gW (gH 7 0 E) .owq .ret)
 |_=>.skip
end
def gLp(i:Nat):Code->Option Code
 |.seq a b=>match gLp i a with
  |some c=>some c
  |none=>gLp i b
 |.cond _ a b=>match gLp i a with
  |some c=>some c
  |none=>gLp i b
 |.block k (.loop b)=>match k==i with
  |true=>some b
  |false=>gLp i b
 |.block _ b=>gLp i b
 |.loop b=>gLp i b
 |_=>none
def gLb(i:Nat)(c:Code):Code:=match gLp i c with
 |some b=>b
 |none=>.skip
def gB(f:Func):Code:=match f.body with
 |some c=>c
 |none=>.skip
def wOk (P : Program) (fn : Func) (N : Nat) (c : MC) (rs : List MR) : Bool := (decide (fn.ntmps = N) && (fn.name != "runtime.NumGoroutine")) && ((match fn.body with
 |some b=>chkC P N c b
 |none=>false)&&chkR P rs fn.results.toList)
abbrev WT(P:Program)(f:FuncId)(N:Nat)(c:MC)(rs:List MR):Prop:=∀{args:List DV} {v:DV},args.length<=N->(DV.okL args->∀x:Ctx,x.N=N->x.pure->w_ P x c (endQ rs v) ⟨⟩ ⟨argT 0 args,fun _=>.non,0⟩)->PCall P f args v
abbrev WM(P:Program)(f:FuncId)(N:Nat)(c:MC)(rs:List MR):Prop:=∀{args:List AV} {bs:List Blk} {v:AV} {bs':List Blk},MStat args N bs v bs'->(∀ts:List (Nat × Nat),ts.length=bs.length->AV.okL args->(∀b,b∈bs->b.ok)->∀x:Ctx,x.N=N->x.pure->w_ P x c (endM rs v bs' ts) ⟨⟩ ⟨argA 0 args,hpOf (bs++zcm 0 ts),bs.length+ts.length⟩)->MCall P f args bs v bs'
theorem wT{P:Program}{f:FuncId}{N:Nat}{c:MC}{rs:List MR}{fn:Func}(hm:P.follows .mixedOrders=true)(hf:P.funcs[f]?=some fn)(h:wOk P fn N c rs=true):WT P f N c rs:=by
 unfold wOk at h
 simp only[Bool.and_eq_true,decide_eq_true_eq]at h
 obtain⟨⟨e,hn⟩,hc,hr⟩:=h
 subst e
 cases hb:fn.body with
 |none=>rw[hb]at hc;cases hc
 |some b=>
  rw[hb]at hc
  exact fun hl k=>PCall.of_walk hf hb hn hc hr hl fun o x e p=>W.aw hm (zso (k o x e p))
theorem wM{P:Program}{f:FuncId}{N:Nat}{c:MC}{rs:List MR}{fn:Func}(hm:P.follows .mixedOrders=true)(hf:P.funcs[f]?=some fn)(h:wOk P fn N c rs=true):WM P f N c rs:=by
 unfold wOk at h
 simp only[Bool.and_eq_true,decide_eq_true_eq]at h
 obtain⟨⟨e,hn⟩,hc,hr⟩:=h
 subst e
 cases hb:fn.body with
 |none=>rw[hb]at hc;cases hc
 |some b=>
  rw[hb]at hc
  exact fun hs k=>MCall.of_walk' hf hb hn hc hr hm hs k
attribute [simp] gJ gAt gFl gSz gAg gBy gEl gRep gZ gNl gV gX gXs gO gH gKk gFo gFs gEs gSs gEq gBad gBin zyu gOp gDn gMO gAny gW gL gC gLp gLb gB
end Go.Abs
namespace Go.Gr
open Go.Abs Go.Proofs
noncomputable abbrev Pg:Program:=Tryz.prog
theorem zab:Pg.follows .mixedOrders=true:=Tryz.checked.mixed
def ttl:List (List TY):=
 let p:=.o (.sc (.pointer none)) 8;let f:=.o (.sc .nilFunc) 8;let q:=.o (.sc .nilIface) 16;let n:=.i .i64
 [[.b,f,n,n,.b,.i .u8,.i .u8,.r 4 24 [2,3,4,6],.r 4 24 [2,3,4,6],.s,.s,.s,.i .u64,.r 2 24 [9,12],.r 2 24 [9,12],p],
  [p,p,.r 1 8 [17],.r 1 8 [17],q,.i .i32,.l 53,f,.l 50,.l 219,.r 3 56 [24,3,25],.r 3 56 [24,3,25],.b,f,f,.l 43],
  [f,f,f,.l 3,.l 9,.l 48,.l 113,.l 41,.r 8 152 [3,3,9,35,36,37,38,39],.r 8 152 [3,3,9,35,36,37,38,39],.r 10 176 [9,3,41],.r 10 176 [9,3,41],f,f,f,.r 4 72 [3,9,36,37]],
  [.r 4 72 [3,9,36,37],.r 13 240 [9,48,41],.r 13 240 [9,48,41],f,.r 2 32 [9,9],.r 2 32 [9,9],.l 92,.l 131,.r 3 32 [9,3,3],.r 3 32 [9,3,3],.r 6 104 [36,54,55,57],.r 6 104 [36,54,55,57],.l 87,.b,f,.b],
  [f,f,p,.l 71,.r 2 32 [67,3],.r 2 32 [67,3],.r 11 200 [9,41,35,3],.r 11 200 [9,41,35,3],f,f,p,.l 79,.r 1 24 [75],.r 1 24 [75],.r 11 200 [9,41,35,3],.r 11 200 [9,41,35,3]],
  [f,.b,f,f,f,n,.r 4 32 [3,3,3,85],.r 4 32 [3,3,3,85],f,.l 135,.l 98,.r 2 48 [89,90],.r 2 48 [89,90],.l 170,.l 96,.r 8 120 [3,9,3,3,3,37,36,94]],
  [.r 8 120 [3,9,3,3,3,37,36,94],.r 15 224 [9,4,93,9,37,96,3,3],.r 15 224 [9,4,93,9,37,96,3,3],p,p,.l 109,.r 2 32 [3,101],.r 2 32 [3,101],.r 17 272 [59,100,27,60,3,36,37,85,3,3],.r 17 272 [59,100,27,60,3,36,37,85,3,3],.b,f,.r 3 40 [3,3,37],.r 3 40 [3,3,37],f,.l 156],
  [.r 5 120 [35,111,36,38,38],.r 5 120 [35,111,36,38,38],f,f,f,f,f,f,f,.m 3 4,f,f,f,f,f,f],
  [f,.b,f,.l 57,.b,f,.r 4 56 [9,36,3,3],.r 4 56 [9,36,3,3],.b,f,f,f,f,f,f,f],
  [f,f,f,.b,f,.r 5 88 [9,48],.r 5 88 [9,48],.l 150,f,f,f,.r 2 24 [9,3],.r 2 24 [9,3],f,f,f],
  [f,p,.b,f,f,f,.l 4,.b,f,.r 5 88 [9,48],.r 5 88 [9,48],f,f,f,f,.l 178],
  [f,.r 6 88 [3,4,48],.r 6 88 [3,4,48],f,f,f,f,f,f,f,f,.i .u64,f,.l 195,.b,f],
  [.r 6 64 [189,3,3,85,3,3],.r 6 64 [189,3,3,85,3,3],.r 4 40 [3,9,3,3],.r 4 40 [3,9,3,3],f,f,f,.b,f,f,f,f,.b,f,f,.b],
  [f,f,f,f,f,f,.b,f,f,f,.r 3 24 [3,3,3],.r 3 24 [3,3,3],f,n,.b,f],
  [f,f,f,.b,f,f,.i .u32,f,.i .u64,f,.b,f,f,f,f,f],
  [f,f,.i .u64,f,f,f,p,f,f,.b,f,f,p,.b,f,.l 36],
  [f,.r 4 40 [17,17,17,9],.r 4 40 [17,17,17,9],.a 0 0 16,.r 0 0 [259],.r 0 0 [259],f,.i .u8,.i .u8,f,p,.i .i32,.i .i32,.r 11 48 [12,12,230,263,5,5,264,265,266,267,268],.r 11 48 [12,12,230,263,5,5,264,265,266,267,268]]]
def tt(k:Nat):TY:=gAt .s (gAt [] ttl (k/16)) (k%16)
attribute [simp] tt ttl
def zhA:MC:=(fun x (_:x=gC tt [] [] [] (gLb 0 (gB Tryz.f155)))=>x) _ (by dsimp[Tryz.f155])
def zjz:MC:=(fun x (_:x=gC tt [] [] [(0,zhA)] (gB Tryz.f155))=>x) _ (by dsimp[Tryz.f155])
theorem zrE:WT Pg 155 52 zjz [.tmp 2,.tmp 3]:=wT zab Tryz.func155 (by kernel_rfl)
def mc_g02_Words:MC:=(fun x (_:x=gC tt [] [] [] (gB Tryz.f102))=>x) _ (by dsimp[Tryz.f102])
theorem zrF:WT Pg 102 2 mc_g02_Words [.tmp 0]:=wT zab Tryz.func102 (by kernel_rfl)
def lp_g02_word_0:MC:=(fun x (_:x=gC tt [] [] [] (gLb 0 (gB Tryz.f67)))=>x) _ (by dsimp[Tryz.f67])
def zk0:MC:=(fun x (_:x=gC tt [] [] [(0,lp_g02_word_0)] (gB Tryz.f67))=>x) _ (by dsimp[Tryz.f67])
theorem ztu:WT Pg 67 18 zk0 [.tmp 2]:=wT zab Tryz.func67 (by kernel_rfl)
def mc_g02_letter:MC:=(fun x (_:x=gC tt [] [] [] (gB Tryz.f69))=>x) _ (by dsimp[Tryz.f69])
theorem zqg:WT Pg 69 21 mc_g02_letter [.tmp 2]:=wT zab Tryz.func69 (by kernel_rfl)
def mc_g02_digit:MC:=(fun x (_:x=gC tt [] [] [] (gB Tryz.f68))=>x) _ (by dsimp[Tryz.f68])
theorem zrG:WT Pg 68 9 mc_g02_digit [.tmp 2]:=wT zab Tryz.func68 (by kernel_rfl)
def lp_g02_Name_0:MC:=(fun x (_:x=gC tt [] [] [] (gLb 0 (gB Tryz.f43)))=>x) _ (by dsimp[Tryz.f43])
def zk1:MC:=(fun x (_:x=gC tt [] [] [(0,lp_g02_Name_0)] (gB Tryz.f43))=>x) _ (by dsimp[Tryz.f43])
theorem ztv:WT Pg 43 45 zk1 [.tmp 2]:=wT zab Tryz.func43 (by kernel_rfl)
def lp_g02_sign_0:MC:=(fun x (_:x=gC tt [] [(5,[0,1,3,7,15,31,15,15,207,463,1023,2047])] [] (gLb 0 (gB Tryz.f157)))=>x) _ (by dsimp[Tryz.f157])
def zfq:MC:=(fun x (_:x=gC tt [] [(11,[0,1,0,0,12,31])] [] (gLb 2 (gB Tryz.f157)))=>x) _ (by dsimp[Tryz.f157])
def zk2:MC:=(fun x (_:x=gC tt [] [] [(0,lp_g02_sign_0),(2,zfq)] (gB Tryz.f157))=>x) _ (by dsimp[Tryz.f157])
theorem ztw:WT Pg 157 38 zk2 [.tmp 2]:=wT zab Tryz.func157 (by kernel_rfl)
def lp_g02_quoted_0:MC:=(fun x (_:x=gC tt [] [] [] (gLb 0 (gB Tryz.f156)))=>x) _ (by dsimp[Tryz.f156])
def zi5:MC:=(fun x (_:x=gC tt [] [] [(0,lp_g02_quoted_0)] (gB Tryz.f156))=>x) _ (by dsimp[Tryz.f156])
theorem zqh:WT Pg 156 59 zi5 [.tmp 2,.tmp 3]:=wT zab Tryz.func156 (by kernel_rfl)
def lp_g02_blank_2:MC:=(fun x (_:x=gC tt [] [] [] (gLb 2 (gB Tryz.f137)))=>x) _ (by dsimp[Tryz.f137])
def zhB:MC:=(fun x (_:x=gC tt [] [] [(2,lp_g02_blank_2)] (gLb 0 (gB Tryz.f137)))=>x) _ (by dsimp[Tryz.f137])
def zjA:MC:=(fun x (_:x=gC tt [] [] [(0,zhB)] (gB Tryz.f137))=>x) _ (by dsimp[Tryz.f137])
theorem zrH:WT Pg 137 50 zjA [.tmp 2]:=wT zab Tryz.func137 (by kernel_rfl)
def lp_g02_token_0:MC:=(fun x (_:x=gC tt [] [] [] (gLb 0 (gB Tryz.f138)))=>x) _ (by dsimp[Tryz.f138])
def zjB:MC:=(fun x (_:x=gC tt [] [] [(0,lp_g02_token_0)] (gB Tryz.f138))=>x) _ (by dsimp[Tryz.f138])
theorem zrI:WT Pg 138 115 zjB [.cell 2 true 4,.tmp 3,.tmp 4]:=wT zab Tryz.func138 (by kernel_rfl)
def lp_g02_Lex_2:MC:=(fun x (_:x=gC tt [] [] [] (gLb 2 (gB Tryz.f103)))=>x) _ (by dsimp[Tryz.f103])
def zjC:MC:=(fun x (_:x=gC tt [] [] [(2,lp_g02_Lex_2)] (gLb 0 (gB Tryz.f103)))=>x) _ (by dsimp[Tryz.f103])
def zmw:MC:=(fun x (_:x=gC tt [(6,0)] [] [(0,zjC)] (gB Tryz.f103))=>x) _ (by dsimp[Tryz.f103])
theorem zve:WT Pg 103 86 zmw [.tmp 2,.cell 3 true 4]:=wT zab Tryz.func103 (by kernel_rfl)
def mc_gp_fail:MC:=(fun x (_:x=gC tt [] [(2,[0,0,2,6,14,0,32,96,224,510,1022,2046,4095,8191,16383]),(3,[0,0,2,6,14,0,32,96,224,510,1022,2046,4095,8191,16383])] [] (gB Tryz.f111))=>x) _ (by dsimp[Tryz.f111])
theorem ztx:WM Pg 111 41 mc_gp_fail []:=wM zab Tryz.func111 (by kernel_rfl)
def mc_gp_sees:MC:=(fun x (_:x=gC tt [] [(1,[0,1,3,7,0,16,48,112,255,511,0,2047])] [] (gB Tryz.f139))=>x) _ (by dsimp[Tryz.f139])
theorem zty:WM Pg 139 37 mc_gp_sees [.tmp 4]:=wM zab Tryz.func139 (by kernel_rfl)
def mc_gp_take:MC:=(fun x (_:x=gC tt [(9,139)] [] [] (gB Tryz.f104))=>x) _ (by dsimp[Tryz.f104])
theorem ztz:WM Pg 104 18 mc_gp_take [.tmp 4]:=wM zab Tryz.func104 (by kernel_rfl)
def mc_gp_want:MC:=(fun x (_:x=gC tt [(9,104),(9,111)] [] [] (gB Tryz.f106))=>x) _ (by dsimp[Tryz.f106])
theorem ztA:WM Pg 106 12 mc_gp_want []:=wM zab Tryz.func106 (by kernel_rfl)
def mc_gp_name:MC:=(fun x (_:x=gC tt [(9,111)] [(1,[0,1,3,7,0,16,48,112,255,511,0,2047])] [] (gB Tryz.f105))=>x) _ (by dsimp[Tryz.f105])
theorem ztB:WM Pg 105 35 mc_gp_name [.tmp 2]:=wM zab Tryz.func105 (by kernel_rfl)
def mc_gp_enter:MC:=(fun x (_:x=gC tt [(9,111)] [] [] (gB Tryz.f142))=>x) _ (by dsimp[Tryz.f142])
theorem zrJ:WM Pg 142 22 mc_gp_enter [.tmp 2]:=wM zab Tryz.func142 (by kernel_rfl)
def mc_gp_Kind:MC:=(fun x (_:x=gC tt [(9,142),(9,158),(9,104),(9,140)] [] [] (gB Tryz.f140))=>x) _ (by dsimp[Tryz.f140])
theorem ztC:WM Pg 140 31 mc_gp_Kind [.cell 2 true 4]:=wM zab Tryz.func140 (by kernel_rfl)
def lp_gp_alt_0:MC:=(fun x (_:x=gC tt [(9,104),(9,162)] [] [] (gLb 0 (gB Tryz.f158)))=>x) _ (by dsimp[Tryz.f158])
def zos:MC:=(fun x (_:x=gC tt [(9,162),(1,8),(4,19)] [] [(0,lp_gp_alt_0)] (gB Tryz.f158))=>x) _ (by dsimp[Tryz.f158])
theorem zvf:WM Pg 158 27 zos [.cell 2 true 4]:=wM zab Tryz.func158 (by kernel_rfl)
def lp_gp_prim_0:MC:=(fun x (_:x=gC tt [(9,104)] [] [] (gLb 0 (gB Tryz.f162)))=>x) _ (by dsimp[Tryz.f162])
def zjD:MC:=(fun x (_:x=gC tt [(9,105),(9,106),(9,140),(9,104)] [] [] (gLb 2 (gB Tryz.f162)))=>x) _ (by dsimp[Tryz.f162])
def zmx:MC:=(fun x (_:x=gC tt [(9,104),(9,140),(9,106),(9,105),(5,43),(4,45),(4,68)] [] [(0,lp_gp_prim_0),(2,zjD)] (gB Tryz.f162))=>x) _ (by dsimp[Tryz.f162])
theorem ztD:WM Pg 162 71 zmx [.cell 2 true 4]:=wM zab Tryz.func162 (by kernel_rfl)
def mc_gp_note:MC:=(fun x (_:x=gC tt [(9,104),(9,140)] [] [] (gB Tryz.f141))=>x) _ (by dsimp[Tryz.f141])
theorem ztE:WM Pg 141 13 mc_gp_note [.tmp 2]:=wM zab Tryz.func141 (by kernel_rfl)
def mc_gp_at:MC:=(fun x (_:x=gC tt [] [(1,[0,0,2,6,14,0,32,96,224,510,1022,2046,0,4096,12288,28672,0,65536,196608,458752,1044480,2093056,4190208,8388607,16777215])] [] (gB Tryz.f159))=>x) _ (by dsimp[Tryz.f159])
theorem zxd:WM Pg 159 29 mc_gp_at [.cell 4 true 8]:=wM zab Tryz.func159 (by kernel_rfl)
def mc_gp_Expr:MC:=(fun x (_:x=gC tt [(9,142),(9,143)] [] [] (gB Tryz.f110))=>x) _ (by dsimp[Tryz.f110])
theorem ztF:WM Pg 110 20 mc_gp_Expr [.cell 2 true 8]:=wM zab Tryz.func110 (by kernel_rfl)
def mc_gp_expr:MC:=(fun x (_:x=gC tt [(9,159),(9,104),(9,105),(9,141),(9,106),(9,110),(9,109),(9,160)] [] [] (gB Tryz.f143))=>x) _ (by dsimp[Tryz.f143])
theorem ztG:WM Pg 143 76 mc_gp_expr [.cell 2 true 8]:=wM zab Tryz.func143 (by kernel_rfl)
def mc_gp_head:MC:=(fun x (_:x=gC tt [(9,106),(9,105),(9,141),(7,1)] [] [] (gB Tryz.f109))=>x) _ (by dsimp[Tryz.f109])
theorem zes:WM Pg 109 26 mc_gp_head [.tmp 2,.tmp 3]:=wM zab Tryz.func109 (by kernel_rfl)
def lp_gp_rank_0:MC:=(fun x (_:x=gC tt [(9,159),(9,104),(9,160)] [] [] (gLb 0 (gB Tryz.f160)))=>x) _ (by dsimp[Tryz.f160])
def zfK:MC:=(fun x (_:x=gC tt [(9,163),(9,164),(9,160)] [] [(0,lp_gp_rank_0)] (gB Tryz.f160))=>x) _ (by dsimp[Tryz.f160])
theorem zin:WM Pg 160 72 zfK [.cell 4 true 8]:=wM zab Tryz.func160 (by kernel_rfl)
def lp_gp_cmp_0:MC:=(fun x (_:x=gC tt [(9,104),(9,160)] [] [] (gLb 0 (gB Tryz.f164)))=>x) _ (by dsimp[Tryz.f164])
def zk3:MC:=(fun x (_:x=gC tt [(9,104)] [] [] (gLb 2 (gB Tryz.f164)))=>x) _ (by dsimp[Tryz.f164])
def zot:MC:=(fun x (_:x=gC tt [(9,160),(9,159),(9,104),(9,140),(9,111)] [] [(0,lp_gp_cmp_0),(2,zk3)] (gB Tryz.f164))=>x) _ (by dsimp[Tryz.f164])
theorem zvg:WM Pg 164 76 zot [.cell 2 true 8]:=wM zab Tryz.func164 (by kernel_rfl)
def mc_gp_unary:MC:=(fun x (_:x=gC tt [(9,142),(9,159),(9,104),(9,163),(9,165)] [] [] (gB Tryz.f163))=>x) _ (by dsimp[Tryz.f163])
theorem zrK:WM Pg 163 39 mc_gp_unary [.cell 2 true 8]:=wM zab Tryz.func163 (by kernel_rfl)
def lp_gp_post_0:MC:=(fun x (_:x=gC tt [(9,159),(9,104),(9,110),(9,106),(9,105)] [] [] (gLb 0 (gB Tryz.f165)))=>x) _ (by dsimp[Tryz.f165])
def zmy:MC:=(fun x (_:x=gC tt [(9,166)] [] [(0,lp_gp_post_0)] (gB Tryz.f165))=>x) _ (by dsimp[Tryz.f165])
theorem ztH:WM Pg 165 33 zmy [.cell 2 true 8]:=wM zab Tryz.func165 (by kernel_rfl)
def mc_gp_atom:MC:=(fun x (_:x=gC tt [(9,159),(9,104),(9,106),(9,110),(9,167),(9,105),(9,168)] [(2,[0,1,3,7,0,16,48,112,255,511,0,2047])] [] (gB Tryz.f166))=>x) _ (by dsimp[Tryz.f166])
theorem ztI:WM Pg 166 125 mc_gp_atom [.cell 2 true 8]:=wM zab Tryz.func166 (by kernel_rfl)
def lp_gp_types_0:MC:=(fun x (_:x=gC tt [(9,140),(9,104)] [] [] (gLb 0 (gB Tryz.f168)))=>x) _ (by dsimp[Tryz.f168])
def zk4:MC:=(fun x (_:x=gC tt [(4,16),(9,106),(6,0)] [] [(0,lp_gp_types_0)] (gB Tryz.f168))=>x) _ (by dsimp[Tryz.f168])
theorem zrL:WM Pg 168 19 zk4 [.tmp 2]:=wM zab Tryz.func168 (by kernel_rfl)
def lp_gp_record_0:MC:=(fun x (_:x=gC tt [(9,105),(9,106),(9,110),(9,104)] [] [] (gLb 0 (gB Tryz.f167)))=>x) _ (by dsimp[Tryz.f167])
def zjE:MC:=(fun x (_:x=gC tt [(0,3),(9,104),(9,110),(9,106),(9,105),(4,106),(6,0)] [(4,[0,1,3,7,0,16,48,112,255,511,0,2047]),(5,[0,1,3,7,15,31,63,127,255,511,1023,2047,4095,8191,16383,2047,34815,100351,231423,493567,1048575,2097151,4194303,8388607,16777215,33554431,67108863,134217727,268435455,536870911,67108863,1140850687,3288334335,7583301631,16173236223,34359738367,68719476735,137438953471,274877906943,549755813887])] [(0,lp_gp_record_0)] (gB Tryz.f167))=>x) _ (by dsimp[Tryz.f167])
theorem zqi:WM Pg 167 109 zjE [.cell 4 true 8]:=wM zab Tryz.func167 (by kernel_rfl)
def lp_gp_names_0:MC:=(fun x (_:x=gC tt [(9,105),(9,104),(7,1)] [] [] (gLb 0 (gB Tryz.f107)))=>x) _ (by dsimp[Tryz.f107])
def zk5:MC:=(fun x (_:x=gC tt [(6,0)] [] [(0,lp_gp_names_0)] (gB Tryz.f107))=>x) _ (by dsimp[Tryz.f107])
theorem zrM:WM Pg 107 17 zk5 [.tmp 2]:=wM zab Tryz.func107 (by kernel_rfl)
def lp_gp_vars_0:MC:=(fun x (_:x=gC tt [(9,105),(9,104),(9,140)] [] [] (gLb 0 (gB Tryz.f108)))=>x) _ (by dsimp[Tryz.f108])
def zmz:MC:=(fun x (_:x=gC tt [(9,104),(4,27),(9,106),(6,0)] [] [(0,lp_gp_vars_0)] (gB Tryz.f108))=>x) _ (by dsimp[Tryz.f108])
theorem ztJ:WM Pg 108 30 zmz [.tmp 2]:=wM zab Tryz.func108 (by kernel_rfl)
def lp_gp_module_0:MC:=(fun x (_:x=gC tt [(9,104),(9,105),(9,106),(9,107)] [(3,[0,1,3,7,0,16,48,112,255,511,1023,0,2048,6144,14336,0,32768,98304,229376,522240,1046528,2095104,4194303,0,16777215])] [] (gLb 0 (gB Tryz.f71)))=>x) _ (by dsimp[Tryz.f71])
def zeO:MC:=(fun x (_:x=gC tt [(9,104),(9,106),(9,105),(9,108),(9,109),(4,131),(9,110)] [(11,[0,1,3,7,15,31,63,127,255,511,63,1087,3135,7231,16383,32767,65535,131071,262143]),(13,[0,1,3,7,0,16,48,112,255,511,1023,2047,4095]),(14,[0,1,3,7,0,16,48,112,255,511,1023,2047,4095])] [] (gLb 2 (gB Tryz.f71)))=>x) _ (by dsimp[Tryz.f71])
def zjF:MC:=(fun x (_:x=gC tt [(6,0),(7,1)] [] [(0,lp_gp_module_0),(2,zeO)] (gB Tryz.f71))=>x) _ (by dsimp[Tryz.f71])
theorem zqj:WM Pg 71 145 zjF [.cell 2 true 2]:=wM zab Tryz.func71 (by kernel_rfl)
def mc_gp_end:MC:=(fun x (_:x=gC tt [(9,111)] [(1,[0,1,3,7,15,31,63,127,255,511,63,1087,3135,7231,16383,32767,65535,131071,262143]),(3,[0,1,3,7,0,16,48,112,0,256,768,1792,4095,8191])] [] (gB Tryz.f72))=>x) _ (by dsimp[Tryz.f72])
theorem zvh:WM Pg 72 37 mc_gp_end [.cell 2 true 4]:=wM zab Tryz.func72 (by kernel_rfl)
def mc_g05_begun:MC:=(fun x (_:x=gC tt [(0,13)] [(2,[0,1,3,0,7,31])] [] (gB Tryz.f70))=>x) _ (by dsimp[Tryz.f70])
theorem zqk:WM Pg 70 15 mc_g05_begun [.tmp 2,.cell 3 true 4]:=wM zab Tryz.func70 (by kernel_rfl)
def mc_g05_Parse:MC:=(fun x (_:x=gC tt [(9,70),(9,71),(9,72)] [(3,[0,0,1,7]),(7,[0,0,1,7]),(8,[0,0,1,7])] [] (gB Tryz.f44))=>x) _ (by dsimp[Tryz.f44])
theorem zrN:WT Pg 44 28 mc_g05_Parse [.cell 2 true 2,.cell 3 true 4]:=wT zab Tryz.func44 (by kernel_rfl)
end Go.Gr
namespace Go.Gr
open Go.Abs Go.Proofs
structure Ins where
 op:Int
 a:Int
 b:Int
 c:Int
structure Prc where
 caps:Int
 regs:Int
 code:List Ins
def encI(l:List Int):List (List D):=l.map fun i=>[.int .i64 i]
def encS(l:List ByteArray):List (List D):=l.map fun s=>[.str s]
def encN(l:List (ByteArray × Int)):List (List D):=l.map fun x=>[.str x.1,.int .i64 x.2]
inductive Coe where
 |mk (tags:List Int) (needs:List (ByteArray × Int)) (names:List ByteArray) (fields fn:List Coe)
mutual
def Coe.enc:Coe->List D
 |.mk t n s f g=>[.sl false 1 (encI t),.sl false 2 (encN n),.sl false 1 (encS s),.sl false 5 (Coe.encs f),.sl false 5 (Coe.encs g)]
def Coe.encs:List Coe->List (List D)
 |[]=>[]
 |c::cs=>Coe.enc c::Coe.encs cs
end
theorem Coe.encs_map(l:List Coe):Coe.encs l=l.map Coe.enc:=by
 induction l with
 |nil=>simp[Coe.encs]
 |cons c l ih=>simp[Coe.encs,ih]
structure Cod where
 ints:List Int
 strs:List ByteArray
 shapes:List (List ByteArray)
 cos:List Coe
 procs:List Prc
 main:Int
 merge:Bool
@[simp] theorem zg7(l:List Int):(encI l).length=l.length:=by simp[encI]
@[simp] theorem zdQ(l:List ByteArray):(encS l).length=l.length:=by simp[encS]
@[simp] theorem zg8(l:List (ByteArray × Int)):(encN l).length=l.length:=by simp[encN]
@[simp] theorem zBq(l:List Int)(k:Nat):(encI l)[k]?=(l[k]?).map fun i=>[.int .i64 i]:=by simp[encI]
@[simp] theorem zBr(l:List ByteArray)(k:Nat):(encS l)[k]?=(l[k]?).map fun i=>[.str i]:=by simp[encS]
def Coe.tags:Coe->List Int|.mk t _ _ _ _=>t
def Coe.needs:Coe->List (ByteArray × Int)|.mk _ n _ _ _=>n
def Coe.names:Coe->List ByteArray|.mk _ _ s _ _=>s
def Coe.fields:Coe->List Coe|.mk _ _ _ f _=>f
def Coe.fn:Coe->List Coe|.mk _ _ _ _ g=>g
theorem Coe.enc_eq(d:Coe):d.enc=[.sl false 1 (encI d.tags),.sl false 2 (encN d.needs),.sl false 1 (encS d.names),.sl false 5 (d.fields.map Coe.enc),.sl false 5 (d.fn.map Coe.enc)]:=by
 cases d with
 |mk t n s f g=>simp[Coe.enc,Coe.encs_map,Coe.tags,Coe.needs,Coe.names,Coe.fields,Coe.fn]
@[simp] theorem Coe.enc_length(d:Coe):d.enc.length=5:=by simp[Coe.enc_eq]
@[simp high] theorem Coe.enc_0(d:Coe):d.enc[0]?=some (.sl false 1 (encI d.tags)):=by simp[Coe.enc_eq]
@[simp high] theorem Coe.enc_1(d:Coe):d.enc[1]?=some (.sl false 2 (encN d.needs)):=by simp[Coe.enc_eq]
@[simp high] theorem Coe.enc_2(d:Coe):d.enc[2]?=some (.sl false 1 (encS d.names)):=by simp[Coe.enc_eq]
@[simp high] theorem Coe.enc_3(d:Coe):d.enc[3]?=some (.sl false 5 (d.fields.map Coe.enc)):=by simp[Coe.enc_eq]
@[simp high] theorem Coe.enc_4(d:Coe):d.enc[4]?=some (.sl false 5 (d.fn.map Coe.enc)):=by simp[Coe.enc_eq]
end Go.Gr
namespace Go.Gr
open Go.Abs Go.Proofs
inductive Typ where
 |mk (kind:Int) (name:ByteArray) (names:List ByteArray) (kids:List Typ)
mutual
def Typ.enc:Typ->List D
 |.mk k n s l=>[.int .i64 k,.str n,.sl false 1 (encS s),.sl false 4 (Typ.encs l)]
def Typ.encs:List Typ->List (List D)
 |[]=>[]
 |t::l=>Typ.enc t::Typ.encs l
end
theorem Typ.encs_map(l:List Typ):Typ.encs l=l.map Typ.enc:=by
 induction l with
 |nil=>simp[Typ.encs]
 |cons c l ih=>simp[Typ.encs,ih]
def Typ.kind:Typ->Int|.mk k _ _ _=>k
def Typ.name:Typ->ByteArray|.mk _ n _ _=>n
def Typ.names:Typ->List ByteArray|.mk _ _ s _=>s
def Typ.kids:Typ->List Typ|.mk _ _ _ l=>l
theorem Typ.enc_eq(t:Typ):t.enc=[.int .i64 t.kind,.str t.name,.sl false 1 (encS t.names),.sl false 4 (t.kids.map Typ.enc)]:=by
 cases t;simp[Typ.enc,Typ.encs_map,Typ.kind,Typ.name,Typ.names,Typ.kids]
@[simp] theorem Typ.enc_length(t:Typ):t.enc.length=4:=by rw[t.enc_eq];try rfl
@[simp] theorem Typ.enc_0(t:Typ):t.enc[0]?=some (.int .i64 t.kind):=by rw[t.enc_eq];try rfl
@[simp] theorem Typ.enc_1(t:Typ):t.enc[1]?=some (.str t.name):=by rw[t.enc_eq];try rfl
@[simp] theorem Typ.enc_2(t:Typ):t.enc[2]?=some (.sl false 1 (encS t.names)):=by rw[t.enc_eq];try rfl
@[simp] theorem Typ.enc_3(t:Typ):t.enc[3]?=some (.sl false 4 (t.kids.map Typ.enc)):=by rw[t.enc_eq];try rfl
@[simp] theorem Typ.enc_g0(t:Typ)(h:0<t.enc.length):t.enc[0]=.int .i64 t.kind:=by have:=t.enc_0;rw[List.getElem?_eq_getElem h]at this;exact Option.some.inj this
@[simp] theorem Typ.enc_g2(t:Typ)(h:2<t.enc.length):t.enc[2]=.sl false 1 (encS t.names):=by have:=t.enc_2;rw[List.getElem?_eq_getElem h]at this;exact Option.some.inj this
@[simp] theorem Typ.enc_g3(t:Typ)(h:3<t.enc.length):t.enc[3]=.sl false 4 (t.kids.map Typ.enc):=by have:=t.enc_3;rw[List.getElem?_eq_getElem h]at this;exact Option.some.inj this
def noT:Typ:=.mk 0 (bs []) [] []
structure Tok where
 kind:Int
 text:ByteArray
 line:Int
 col:Int
def Tok.enc(t:Tok):List D:=[.int .i64 t.kind,.str t.text,.int .i64 t.line,.int .i64 t.col]
def zdZ:Tok:=⟨0,bs [],0,0⟩
@[simp] theorem Tok.enc_length(t:Tok):t.enc.length=4:=rfl
@[simp] theorem Tok.enc_0(t:Tok):t.enc[0]?=some (.int .i64 t.kind):=rfl
@[simp] theorem Tok.enc_1(t:Tok):t.enc[1]?=some (.str t.text):=rfl
@[simp] theorem Tok.enc_2(t:Tok):t.enc[2]?=some (.int .i64 t.line):=rfl
@[simp] theorem Tok.enc_3(t:Tok):t.enc[3]?=some (.int .i64 t.col):=rfl
@[simp] theorem Tok.enc_g0(t:Tok)(h:0<t.enc.length):t.enc[0]=.int .i64 t.kind:=rfl
@[simp] theorem Tok.enc_g1(t:Tok)(h:1<t.enc.length):t.enc[1]=.str t.text:=rfl
@[simp] theorem Tok.enc_g2(t:Tok)(h:2<t.enc.length):t.enc[2]=.int .i64 t.line:=rfl
@[simp] theorem Tok.enc_g3(t:Tok)(h:3<t.enc.length):t.enc[3]=.int .i64 t.col:=rfl
@[simp] theorem Tok.cut_enc(t:Tok):cut t.enc 0 4=t.enc:=rfl
@[simp] theorem Tok.cut_map(t:Tok):cut (t.enc.map AC.d) 0 4=t.enc.map .d:=rfl
inductive Nod where
 |mk (kind:Int) (text:ByteArray) (n line col:Int) (types:List Typ) (names:List ByteArray) (kids:List Nod)
mutual
def Nod.enc:Nod->List D
 |.mk k t n a b ts ns ks=>[.int .i64 k,.str t,.int .i64 n,.int .i64 a,.int .i64 b,.sl false 4 (ts.map Typ.enc),.sl false 1 (encS ns),.sl false 8 (Nod.encs ks)]
def Nod.encs:List Nod->List (List D)
 |[]=>[]
 |n::l=>Nod.enc n::Nod.encs l
end
theorem Nod.encs_map(l:List Nod):Nod.encs l=l.map Nod.enc:=by
 induction l with
 |nil=>rfl
 |cons n l ih=>simp[Nod.encs,ih]
def noN:Nod:=.mk 0 (bs []) 0 0 0 [] [] []
def Nod.kind:Nod->Int|.mk k _ _ _ _ _ _ _=>k
def Nod.text:Nod->ByteArray|.mk _ t _ _ _ _ _ _=>t
def Nod.n:Nod->Int|.mk _ _ n _ _ _ _ _=>n
def Nod.line:Nod->Int|.mk _ _ _ a _ _ _ _=>a
def Nod.col:Nod->Int|.mk _ _ _ _ b _ _ _=>b
def Nod.types:Nod->List Typ|.mk _ _ _ _ _ t _ _=>t
def Nod.names:Nod->List ByteArray|.mk _ _ _ _ _ _ s _=>s
def Nod.kids:Nod->List Nod|.mk _ _ _ _ _ _ _ l=>l
theorem Nod.enc_eq(t:Nod):t.enc=[.int .i64 t.kind,.str t.text,.int .i64 t.n,.int .i64 t.line,.int .i64 t.col,.sl false 4 (t.types.map Typ.enc),.sl false 1 (encS t.names),.sl false 8 (t.kids.map Nod.enc)]:=by
 cases t;simp[Nod.enc,Nod.encs_map,Nod.kind,Nod.text,Nod.n,Nod.line,Nod.col,Nod.types,Nod.names,Nod.kids]
@[simp] theorem Nod.enc_length(t:Nod):t.enc.length=8:=by rw[t.enc_eq];try rfl
end Go.Gr
