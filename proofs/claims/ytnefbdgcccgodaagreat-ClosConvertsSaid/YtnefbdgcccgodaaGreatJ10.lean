/- Texts of ours, joined and written short by a program of ours. -/
import Derived.Test.YtnefbdgcccgodaaGreatJ09
set_option linter.unusedVariables false
set_option linter.unusedSimpArgs false
namespace Go.Gr
open Go.Abs Go.Proofs
theorem zfV(ks:List Typ):Typ.enc (.mk 7 (bs []) [] ks)=[.int .i64 7,.str (bs []),.sl false 1 [],.sl false 4 (ks.map Typ.enc)]:=by rw[Typ.enc_eq];try rfl
mutual
theorem zh6:∀t:Typ,za5 t t=true
 |.mk k n s l=>by rw[za5];simp[Typ.kind,Typ.name,Typ.names,Typ.kids,zkO l]
theorem zkO:∀l:List Typ,zdj l l=true
 |[]=>rfl
 |t::l=>by rw[zdj,zh6 t,zkO l];try rfl
end
abbrev arrT(l:List Typ):Blk:=.arr 4 ((l.map Typ.enc).map (·.map .d))
abbrev uniB(all ks:List Typ):List Blk:=[bx4,arrT all,.box [.d (.int .i64 7),.d (.str (bs [])),.d (.sl true 1 []),.msl 4 3 0 ks.length],arrT ks]
abbrev uniT(all:List Typ)(tag:Nat):List (Nat × AV):=[(7,.c (.d (.int .i64 tag))),(6,.c (.ptr 2 0)),(4,.c (.msl 4 1 0 all.length)),(2,.c (.ptr 0 0))]
theorem zlm(tag:Int):∀(l:List Typ) (had:Bool) (ks:List Typ),(tagR tag l had ks).1.2.length<=ks.length+l.length
 |[],had,ks=>by simp[tagR]
 | x::l,had,ks=>by
  have h:(if had=true then ks else ks++[x]).length<=ks.length+1:=by split<;>simp
  rw[tagR]
  by_cases h0:x.kind=0
  ·rw[if_pos h0];simp
  rw[if_neg h0]
  by_cases h1:zax x≠tag
  ·rw[if_pos h1]
   have:=zlm tag l had ks;rw[List.length_cons];omega
  rw[if_neg h1]
  simp only
  generalize (if had=true then ks else ks++[x])=k2 at*
  split
  ·have:=zlm tag l true k2
   rw[List.length_cons];omega
  ·rw[List.length_cons];simp only;omega
set_option maxRecDepth 20000 in
set_option maxHeartbeats 1000000 in
theorem zzx{c:Ctx}(hp:c.pure)(all:List Typ)(hall:all.length<=1000000)(tag:Nat)(htag:tag<6)(ks:List Typ)(hks:ks.length<=10000000)(F0:(Bool × List Typ) × Bool)(hF:tagR tag all false ks=F0){Q:Exit->St->Prop}{S:St}{g}{ms:List Nat}
  (h0:Match ms S ((9,.c (.d (.int .i64 0)))::(8,.c (.d (.bool false)))::uniT all tag) (uniB all ks))
  (hN:F0.2=false->∀T M n,Abs.look T 2=.c (.ptr 0 0)->Abs.look T 3=.c (.d (.bool false))->M 0=.box [.d (.int .i64 7),.d (.str (bs [])),.d (.sl true 1 []),.msl 4 3 0 F0.1.2.length]->M 3=arrT F0.1.2->Q .ret ⟨T,M,n⟩)
  (hQ:F0.2=true->∀T,Abs.look T 7=.c (.d (.int .i64 tag))->Abs.look T 6=.c (.ptr 2 0)->Abs.look T 4=.c (.msl 4 1 0 all.length)->Abs.look T 2=.c (.ptr 0 0)->Q (.exit 4) ⟨T,hpOf (uniB all F0.1.2),4⟩):lw_ Pg c zeJ Q g S:=by
 refine W.loop zab hp (fun x:Nat × Bool × List Typ=>x.1<=all.length/\x.2.2.length<=ks.length+x.1/\(x.2.1=true->x.2.2≠[])/\tagR tag (all.drop x.1) x.2.1 x.2.2=F0) (fun x=>(9,.c (.d (.int .i64 x.1)))::(8,.c (.d (.bool x.2.1)))::uniT all tag) (fun x=>uniB all x.2.2) (fun x=>all.length-x.1) (0,false,ks) ms ⟨by simp,by simp,by simp,by simpa using hF⟩ h0 fun⟨i,had,l⟩ ⟨h1,h2,h3,h4⟩=>?_
 unfold zeJ
 simp only at h1 h2 h3 h4
 simp
 refine gd.mk (fun h=>?_) (fun h=>?_)
 ·have hi:i<all.length:=by simpa using h
  rw[List.drop_eq_getElem_cons hi,tagR]at h4
  obtain⟨x,hx⟩:∃x,all[i]=x:=⟨_,rfl⟩
  have hg:all[i]?=some x:=by rw[List.getElem?_eq_getElem hi,hx]
  rw[hx]at h4
  simp[hi,hx,hg]
  by_cases k0:x.kind=0
  ·rw[if_pos k0]at h4
   subst h4
   simp[k0]
   exact hN rfl _ _ _ (by simp) (by simp) (by simp) (by simp)
  rw[if_neg k0]at h4
  simp[k0,hi,hx,hg]
  refine zac.mk (zmQ x) ?_
  by_cases kt:zax x=tag
  rotate_left
  ·rw[if_pos kt]at h4
   simp[kt]
   refine Abs.Next.mk (i+1,had,l) [0,1,2,3] ⟨by simp only;omega,by simp only;omega,h3,h4⟩ (by simp only;omega) ?_
   simp
   exact wrap_i64 (by omega) (by omega)
  rw[if_neg (fun z=>z kt)]at h4
  cases had with
  |false=>
   simp only[Bool.false_eq_true,if_false,List.getLastD_concat]at h4
   have hw:IntKind.i64.wrap ((l.length:Int)+1-1)=(l.length:Int):=by rw[wrap_i64 (by omega) (by omega)];omega
   have z:List.take l.length (List.map ((fun x=>List.map AC.d x)∘Typ.enc) l)=List.map ((fun x=>List.map AC.d x)∘Typ.enc) l:=zbH l
   have hwl:IntKind.i64.wrap (l.length:Int)=(l.length:Int):=wrap_i64 (by omega) (by omega)
   have g:(List.map ((fun x=>List.map AC.d x)∘Typ.enc) l++[List.map AC.d x.enc])[l.length]?=some (List.map AC.d x.enc):=by simp
   simp[kt,hi,hx,hg,hwl,z,g]
   refine⟨by omega,by decide,by omega,?_⟩
   refine zac.mk (zf0 _ _) ?_
   have hs:=zh6 x
   rw[if_pos hs]at h4
   simp[hs]
   refine⟨by decide,?_⟩
   refine Abs.Next.mk (i+1,true,l++[x]) [0,1,2,4] ⟨by simp only;omega,by simp;omega,by simp,h4⟩ (by simp only;omega) ?_
   simp
   exact wrap_i64 (by omega) (by omega)
  | true=>
   have hne:=h3 rfl
   simp only[if_true]at h4
   have hlp:0<l.length:=List.length_pos_iff.2 hne
   have hw:IntKind.i64.wrap ((l.length:Int)-1)=((l.length-1:Nat):Int):=by rw[wrap_i64 (by omega) (by omega)];omega
   have hlast:l.getLastD noT=l[l.length-1]:=by
    rw[List.getLastD_eq_getLast?,List.getLast?_eq_getElem?,List.getElem?_eq_getElem (by omega)];try rfl
   rw[hlast]at h4
   have hlt:l.length-1<l.length:=by omega
   simp[kt,hi,hx,hg,hw,List.getElem?_eq_getElem hlt,hlt]
   refine zac.mk (zf0 _ _) ?_
   by_cases hs:za5 x l[l.length-1]=true
   ·rw[if_pos hs]at h4
    simp[hs]
    refine⟨by decide,?_⟩
    refine Abs.Next.mk (i+1,true,l) [0,1,2,3] ⟨by simp only;omega,by simp only;omega,fun _=>hne,h4⟩ (by simp only;omega) ?_
    simp
    exact wrap_i64 (by omega) (by omega)
   ·rw[if_neg hs]at h4
    subst h4
    simp[hs]
    refine⟨by decide,?_⟩
    exact hN rfl _ _ _ (by simp) (by simp) (by simp) (by simp)
 ·have hi:i=all.length:=by simp at h;omega
  subst hi
  rw[List.drop_length,tagR]at h4
  subst h4
  exact hQ rfl _ (by simp) (by simp) (by simp) (by simp)
def zgH(i:Nat):List Int:=[0,1,2,3,4,5].drop i
theorem zpw{i:Nat}(h:i<6):zgH i=(i:Int)::zgH (i+1):=by
 have:∀i:Fin 6,zgH i.val=((i.val:Nat):Int)::zgH (i.val+1):=by decide
 exact this ⟨i,h⟩
set_option maxRecDepth 20000 in
set_option maxHeartbeats 1000000 in
theorem zwE(kids:List Typ)(hk:(kids.flatMap mems).length<=1000000)(hkl:kids.length<=1000000):PCall Pg 147 [.one (.sl false 4 (kids.map Typ.enc))] (.tup [.agg (zdU kids).1.enc,.one (.bool (zdU kids).2)]):=by
 refine zrw (by simp) fun o c hN hp=>?_
 obtain⟨R,hR⟩:∃R,zdU kids=R:=⟨_,rfl⟩
 rw[hR]
 unfold zdU at hR
 simp only at hR
 obtain⟨all,hal⟩:∃all,kids.flatMap mems=all:=⟨_,rfl⟩
 rw[hal]at hR hk
 unfold zjf
 simp
 refine owK.mk [.t 4] ?_
 simp
 refine W.loop zab hp (fun x:Nat × List Typ=>x.1<=kids.length/\x.2++(kids.drop x.1).flatMap mems=all) (fun x=>[(5,.c (.d (.int .i64 x.1))),(4,.c (.msl 4 1 0 x.2.length)),(2,.c (.ptr 0 0)),(0,.c (.d (.sl false 4 (kids.map Typ.enc))))]) (fun x=>[bx4,arrT x.2]) (fun x=>kids.length-x.1) (0,[]) [0,1] ⟨by simp,by simpa using hal⟩ (by simp) fun⟨j,l⟩ ⟨h1,h2⟩=>?_
 unfold lp_g03_union_0
 simp only at h1 h2
 simp
 refine gd.mk (fun h=>?_) (fun h=>?_)
 ·have hj:j<kids.length:=by simpa using h
  obtain⟨x,hx⟩:∃x,kids[j]=x:=⟨_,rfl⟩
  have hg:kids[j]?=some x:=by rw[List.getElem?_eq_getElem hj,hx]
  rw[List.drop_eq_getElem_cons hj,hx,List.flatMap_cons,<-List.append_assoc]at h2
  have hll:=congrArg List.length h2
  rw[List.length_append,List.length_append]at hll
  by_cases k7:x.kind=7
  ·have hm:mems x=x.kids:=by unfold mems;rw[if_pos k7]
   rw[hm]at h2 hll
   simp[hj,hx,hg,k7]
   refine⟨by omega,?_⟩
   refine Abs.Next.mk (j+1,l++x.kids) [0,2] ⟨by simp only;omega,h2⟩ (by simp only;omega) ?_
   simp
   exact⟨wrap_i64 (by omega) (by omega),zbH l⟩
  ·have hm:mems x=[x]:=by unfold mems;rw[if_neg k7]
   rw[hm]at h2 hll
   simp only[List.length_singleton]at hll
   simp[hj,hx,hg,k7]
   refine⟨by omega,?_⟩
   refine Abs.Next.mk (j+1,l++[x]) [0,2] ⟨by simp only;omega,h2⟩ (by simp only;omega) ?_
   simp
   exact⟨wrap_i64 (by omega) (by omega),zbH l⟩
 ·have hj:j=kids.length:=by simp at h;omega
  subst hj
  rw[List.drop_length,List.flatMap_nil,List.append_nil]at h2
  subst h2
  simp
  refine owK.mk [.c 2 3] ?_
  simp
  refine W.loop zab hp (fun x:Nat × List Typ=>x.1<=6/\x.2.length<=x.1*l.length/\zbs l (zgH x.1) x.2=zbs l [0,1,2,3,4,5] []) (fun x=>uniT l x.1) (fun x=>uniB l x.2) (fun x=>6-x.1) (0,[]) [0,1,2,3] ⟨by simp,by simp,rfl⟩ (by simp) fun⟨t,ks⟩ ⟨i1,i2,i3⟩=>?_
  unfold zhj
  simp only at i1 i2 i3
  simp
  have hmul:t*l.length<=6*1000000:=Nat.mul_le_mul i1 hk
  have htl:=zlm t l false ks
  refine gd.mk (fun h=>?_) (fun h=>?_)
  ·have ht:t<6:=by simp at h;omega
   rw[zpw ht,zbs]at i3
   refine zzx hp l hk t ht ks (by omega) _ rfl (ms:=[0,1,2,3]) (by simp) (fun hf T M n t2 t3 m0 m3=>?_) (fun hf T t7 t6 t4 t2=>?_)
   ·rw[if_neg (by rw[hf];simp)]at i3
    rw[<-i3]at hR
    simp at hR
    subst hR
    simp[t2,t3,m0,m3,zfV]
    exact List.take_of_length_le (by simp)
   ·rw[if_pos hf]at i3
    simp[t7]
    refine Abs.Next.mk (t+1,(tagR t l false ks).1.2) [0,1,2,3] ⟨by simp only;omega,by simp only;rw[Nat.add_mul];omega,i3⟩ (by simp only;omega) ?_
    simp[t7,t6,t4,t2]
    exact wrap_i64 (by omega) (by omega)
  ·have ht:t=6:=by simp at h;omega
   subst ht
   rw[show zgH 6=[]from rfl,zbs]at i3
   rw[<-i3]at hR
   simp only[if_true]at hR
   have z4:List.take ks.length (List.map Typ.enc ks)=List.map Typ.enc ks:=List.take_of_length_le (by simp)
   match ks,i2,hR,z4 with
   |[],i2,hR,z4=>
    simp at hR
    subst hR
    simp
    exact⟨by decide,by rw[zfV];rfl⟩
   |[x],i2,hR,z4=>
    simp at hR
    subst hR
    simp
    rw[Typ.enc_eq];try rfl
   |x::y::l2,i2,hR,z4=>
    simp at hR
    subst hR
    have h1:¬((l2.length:Int)+1+1=1):=by omega
    have h2:¬(l2.length+1+1=1):=by omega
    have h3:(0:Int)<(l2.length:Int)+1+1:=by omega
    simp[h1,h2,h3]
    exact⟨by decide,by rw[zfV,List.take_of_length_le (by simp)];rfl⟩
end Go.Gr
namespace Go.Gr
open Go.Abs Go.Proofs
mutual
def fewT:Typ->Prop
 |.mk _ _ _ l=>l.length<=200/\zdY l
def zdY:List Typ->Prop
 |[]=>True
 |t::l=>fewT t/\zdY l
end
mutual
theorem zgj:∀(t:Typ) (m:Int),m<=201->za0 t m<m->fewT t
 |.mk k n s l,m,h1,h2=>by
  rw[za0]at h2
  have:=zom l m 1 h1 (by omega) h2
  rw[fewT]
  exact⟨by omega,this.2⟩
theorem zom:∀(l:List Typ) (m n:Int),m<=201->1<=n->za8 l m n<m->n+l.length<=za8 l m n/\zdY l
 |[],m,n,_,_,h=>by rw[za8]at*;exact⟨by simp,trivial⟩
 | t::l,m,n,h1,h2,h3=>by
  have hle:=zit t (m-n)
  rw[za8]at h3⊢
  split
  ·rename_i q
   rw[if_pos q]at h3
   have i:=zom l m (n+za0 t (m-n)) h1 (by omega) h3
   have hle2:=zgT l m (n+za0 t (m-n)) (by omega)
   rw[List.length_cons]
   exact⟨by omega,zgj t (m-n) (by omega) (by omega),i.2⟩
  ·rename_i q
   rw[if_neg q]at h3;omega
end
theorem zvb:∀l:List Typ,zdY l↔∀x,x∈l->fewT x
 |[]=>by simp[zdY]
 |t::l=>by simp[zdY,zvb l]
theorem zlA(tag:Int):∀(l:List Typ) (had:Bool) (ks:List Typ),(tagR tag l had ks).1.2.length<=ks.length+(if had=true then 0 else 1)
 |[],had,ks=>by simp[tagR]
 | x::l,had,ks=>by
  have h:(if had=true then ks else ks++[x]).length<=ks.length+(if had=true then 0 else 1):=by cases had<;>simp
  rw[tagR]
  by_cases h0:x.kind=0
  ·rw[if_pos h0];simp
  rw[if_neg h0]
  by_cases h1:zax x≠tag
  ·rw[if_pos h1]
   exact zlA tag l had ks
  rw[if_neg h1]
  simp only
  generalize (if had=true then ks else ks++[x])=k2 at*
  split
  ·have:=zlA tag l true k2
   simp only[if_true]at this
   omega
  ·exact h
theorem zlB(tag:Int):∀(l:List Typ) (had:Bool) (ks:List Typ) (y:Typ),y∈(tagR tag l had ks).1.2->y∈ks\/(y∈l/\zax y=tag)
 |[],had,ks,y,h=>by simp[tagR]at h;exact .inl h
 | x::l,had,ks,y,h=>by
  have h2:∀z,z∈(if had=true then ks else ks++[x])->z∈ks\/z=x:=fun z hz=>by cases had<;>simp at hz<;>simp[hz]
  rw[tagR]at h
  by_cases h0:x.kind=0
  ·rw[if_pos h0]at h;exact .inl h
  rw[if_neg h0]at h
  by_cases h1:zax x≠tag
  ·rw[if_pos h1]at h
   rcases zlB tag l had ks y h with q|⟨q,r⟩
   ·exact .inl q
   ·exact .inr ⟨by simp[q],r⟩
  rw[if_neg h1]at h
  have hx:zax x=tag:=Classical.byContradiction h1
  simp only at h
  generalize (if had=true then ks else ks++[x])=k2 at*
  have fin:y∈k2->y∈ks\/(y∈x::l/\zax y=tag):=fun hy=>by
   rcases h2 y hy with q|rfl
   ·exact .inl q
   ·exact .inr ⟨by simp,hx⟩
  split at h
  ·rcases zlB tag l true k2 y h with q|⟨q,r⟩
   ·exact fin q
   ·exact .inr ⟨by simp[q],r⟩
  ·exact fin h
theorem zjw(all:List Typ):∀(l:List Int) (ks:List Typ),(zbs all l ks).1.length<=ks.length+l.length
 |[],ks=>by simp[zbs]
 | t::l,ks=>by
  have h1:=zlA t all false ks
  simp only[Bool.false_eq_true,if_false]at h1
  rw[zbs,List.length_cons]
  split
  ·have:=zjw all l (tagR t all false ks).1.2
   omega
  ·simp only;omega
theorem zgP(all:List Typ):∀(l:List Int) (ks:List Typ) (y:Typ),y∈(zbs all l ks).1->y∈ks\/(y∈all/\zax y∈l)
 |[],ks,y,h=>by simp[zbs]at h;exact .inl h
 | t::l,ks,y,h=>by
  rw[zbs]at h
  have fin:y∈(tagR t all false ks).1.2->y∈ks\/(y∈all/\zax y∈t::l):=fun hy=>by
   rcases zlB t all false ks y hy with q|⟨q,r⟩
   ·exact .inl q
   ·exact .inr ⟨q,by simp[r]⟩
  split at h
  ·rcases zgP all l _ y h with q|⟨q,r⟩
   ·exact fin q
   ·exact .inr ⟨q,by simp[r]⟩
  ·exact fin h
theorem zvc(t:Typ):(mems (zaP t).1).length<=6:=by
 have one:∀x:Typ,x.kind≠7->(mems x).length<=6:=fun x h=>by unfold mems;rw[if_neg h];simp
 cases t with
 |mk k n s l=>
 rw[zaP]
 split
 ·split
  ·unfold finR
   split
   ·refine one _ ?_
    unfold zcE
    split<;>simp[Typ.kind]
   split
   ·exact one _ (by simp[Typ.kind])
   ·unfold zdU
    have hl:=zjw ((zaD l).1.flatMap mems) [0,1,2,3,4,5] []
    have hm:=zgP ((zaD l).1.flatMap mems) [0,1,2,3,4,5] []
    simp only
    generalize zbs ((zaD l).1.flatMap mems) [0,1,2,3,4,5] []=r at*
    have seven:∀l:List Typ,l.length<=6->(mems (.mk 7 (bs []) [] l)).length<=6:=fun l h=>by unfold mems;exact h
    split
    ·split
     ·rename_i x e
      have:=hm x (by rw[e];simp)
      refine one _ fun h7=>?_
      have h7:x.kind=7:=h7
      have hb:zax x= -1:=by unfold zax;rw[if_pos (by omega)]
      rw[hb]at this
      simp at this
     ·rename_i e
      exact seven _ (by simpa using hl)
    ·exact seven _ (by simpa using hl)
  ·exact one _ (by simp[noT,Typ.kind])
 ·split
  ·refine one _ ?_
   show k≠7
   omega
  ·exact one _ (by simp[noT,Typ.kind])
theorem zon:∀l:List Typ,(zaD l).1.length<=l.length
 |[]=>by simp[zaD]
 |t::l=>by
  have:=zon l
  rw[zaD]
  split<;>simp;omega
theorem zmt:∀l:List Typ,((zaD l).1.flatMap mems).length<=6*l.length
 |[]=>by simp[zaD]
 |t::l=>by
  have h1:=zmt l
  have h2:=zvc t
  rw[zaD]
  split
  ·rw[List.flatMap_cons,List.length_append,List.length_cons];omega
  ·simp
theorem zxb(t:Typ):zaP t=if 5<=t.kind/\t.kind<=7 then(if(zaD t.kids).2=true then finR t.kind t.names (zaD t.kids).1 else(noT,false))else if 0<=t.kind/\t.kind<=4 then(bT t.kind,true)else(noT,false):=by
 cases t;rw[zaP];try rfl
def accN(a:List Typ)(l:List Typ):List Typ × Bool:=if(zaD l).2=true then(a++(zaD l).1,true)else([],false)
theorem zvd(a:List Typ)(t:Typ)(l:List Typ):accN a (t::l)=if(zaP t).2=true then accN (a++[(zaP t).1]) l else([],false):=by
 unfold accN
 rw[zaD]
 by_cases h:(zaP t).2=true
 ·rw[if_pos h,if_pos h]
  by_cases h2:(zaD l).2=true
  ·simp[h2]
  ·simp[h2]
 ·rw[if_neg h,if_neg h];simp
@[simp] theorem Typ.er_map(t:Typ):t.enc.map D.er=t.enc:=by rw[Typ.enc_eq];try rfl
theorem zap(k:Int):(bT k).enc=[.int .i64 k,.str (bs []),.sl false 1 [],.sl false 4 []]:=by rw[Typ.enc_eq];try rfl
theorem zaf:noT.enc=[.int .i64 0,.str (bs []),.sl false 1 [],.sl false 4 []]:=rfl
abbrev nrmT(t:Typ)(j n:Nat):List (Nat × AV):=[(5,.c (.d (.int .i64 j))),(4,.c (.msl 4 1 0 n)),(2,.c (.ptr 0 0)),(1,.c (.d (.rp t.enc 0)))]
set_option maxRecDepth 20000 in
set_option maxHeartbeats 1000000 in
theorem zqb{c:Ctx}(hp:c.pure)(t:Typ)(hl:t.kids.length<=200)(ih:∀e,e∈t.kids->PCall Pg 114 [.agg e.enc] (.tup [.agg (zaP e).1.enc,.one (.bool (zaP e).2)])){Q:Exit->St->Prop}{S:St}{g}{ms:List Nat}
  (h0:Match ms S (nrmT t 0 0) [bx4,arrT []])
  (hN:(zaD t.kids).2=false->∀T M n,Abs.look T 2=.c (.ptr 0 0)->Abs.look T 3=.c (.d (.bool false))->M 0=bx4->Q .ret ⟨T,M,n⟩)
  (hQ:(zaD t.kids).2=true->∀T,Abs.look T 4=.c (.msl 4 1 0 (zaD t.kids).1.length)->Abs.look T 2=.c (.ptr 0 0)->Abs.look T 1=.c (.d (.rp t.enc 0))->Q (.exit 1) ⟨T,hpOf [bx4,arrT (zaD t.kids).1],2⟩):lw_ Pg c lp_g03_norm_1 Q g S:=by
 have hA:accN [] t.kids=if(zaD t.kids).2=true then((zaD t.kids).1,true)else([],false):=rfl
 have hN:(accN [] t.kids).2=false->∀T M n,Abs.look T 2=.c (.ptr 0 0)->Abs.look T 3=.c (.d (.bool false))->M 0=bx4->Q .ret ⟨T,M,n⟩:=fun h=>hN (by
  rw[hA]at h
  cases e:(zaD t.kids).2 with
  |false=>rfl
  |true=>rw[if_pos e]at h;cases h)
 have hQ:(accN [] t.kids).2=true->∀T,Abs.look T 4=.c (.msl 4 1 0 (accN [] t.kids).1.length)->Abs.look T 2=.c (.ptr 0 0)->Abs.look T 1=.c (.d (.rp t.enc 0))->Q (.exit 1) ⟨T,hpOf [bx4,arrT (accN [] t.kids).1],2⟩:=fun h=>by
  rw[hA]at h⊢
  cases e:(zaD t.kids).2 with
  |false=>rw[e]at h;cases h
  |true=>rw[if_pos rfl];exact hQ e
 obtain⟨F0,hF⟩:∃F0,accN [] t.kids=F0:=⟨_,rfl⟩
 rw[hF]at hN hQ
 refine W.loop zab hp (fun x:Nat × List Typ=>x.1<=t.kids.length/\x.2.length<=x.1/\accN x.2 (t.kids.drop x.1)=F0) (fun x=>nrmT t x.1 x.2.length) (fun x=>[bx4,arrT x.2]) (fun x=>t.kids.length-x.1) (0,[]) ms ⟨by simp,by simp,by simpa using hF⟩ h0 fun⟨j,a⟩ ⟨h1,h2,h3⟩=>?_
 unfold lp_g03_norm_1
 simp only at h1 h2 h3
 simp
 refine gd.mk (fun h=>?_) (fun h=>?_)
 ·have hj:j<t.kids.length:=by simpa using h
  rw[List.drop_eq_getElem_cons hj,zvd]at h3
  obtain⟨x,hx⟩:∃x,t.kids[j]=x:=⟨_,rfl⟩
  have hm:=List.getElem_mem hj
  rw[hx]at h3 hm
  simp[hj,hx]
  refine zac.mk (ih x hm) ?_
  simp
  by_cases q:(zaP x).2=true
  ·rw[if_pos q]at h3
   simp[q]
   refine⟨by omega,?_⟩
   refine Abs.Next.mk (j+1,a++[(zaP x).1]) [0,3] ⟨by simp only;omega,by simp;omega,h3⟩ (by simp only;omega) ?_
   simp
   exact⟨wrap_i64 (by omega) (by omega),zbH a⟩
  ·rw[if_neg q]at h3
   subst h3
   simp[q]
   exact hN rfl _ _ _ (by simp) (by simp) (by simp)
 ·have hj:j=t.kids.length:=by simp at h;omega
  subst hj
  rw[List.drop_length]at h3
  have e:accN a []=(a,true):=by unfold accN;simp[zaD]
  rw[e]at h3
  subst h3
  exact hQ rfl _ (by simp) (by simp) (by simp)
set_option maxRecDepth 20000 in
set_option maxHeartbeats 1000000 in
theorem zxc(t:Typ)(hl:t.kids.length<=200)(ih:∀e,e∈t.kids->PCall Pg 114 [.agg e.enc] (.tup [.agg (zaP e).1.enc,.one (.bool (zaP e).2)])):
  PCall Pg 114 [.agg t.enc] (.tup [.agg (zaP t).1.enc,.one (.bool (zaP t).2)]):=by
 refine ztg (by simp) fun o c hN hp=>?_
 obtain⟨R,hR⟩:∃R,zaP t=R:=⟨_,rfl⟩
 rw[hR]
 rw[zxb]at hR
 unfold zkT
 by_cases k1:0<=t.kind/\t.kind<=4
 ·rw[if_neg (by omega),if_pos k1]at hR
  subst hR
  have hc:t.kind=0\/t.kind=1\/t.kind=2\/t.kind=3\/t.kind=4:=by omega
  rcases hc with k|k|k|k|k<;>simp[k,zap]
 by_cases k2:5<=t.kind/\t.kind<=7
 rotate_left
 ·rw[if_neg k2,if_neg k1]at hR
  subst hR
  have a0:¬t.kind=0:=by omega
  have a1:¬t.kind=1:=by omega
  have a2:¬t.kind=2:=by omega
  have a3:¬t.kind=3:=by omega
  have a4:¬t.kind=4:=by omega
  have a5:¬t.kind=5:=by omega
  have a6:¬t.kind=6:=by omega
  have a7:¬t.kind=7:=by omega
  simp[a0,a1,a2,a3,a4,a5,a6,a7,zaf]
 rw[if_pos k2]at hR
 have hnl:=zon t.kids
 have hnm:=zmt t.kids
 have hk:∀K:Int,t.kind=K->(if(zaD t.kids).2=true then finR K t.names (zaD t.kids).1 else(noT,false))=R:=fun K e=>by rw[<-e];exact hR
 have a0:¬t.kind=0:=by omega
 have a1:¬t.kind=1:=by omega
 have a2:¬t.kind=2:=by omega
 have a3:¬t.kind=3:=by omega
 have a4:¬t.kind=4:=by omega
 have hc:t.kind=5\/t.kind=6\/t.kind=7:=by omega
 rcases hc with k|k|k
 ·have hR:=hk 5 k
  simp[k]
  refine owK.mk [.t 4] ?_
  simp
  refine zqb hp t hl ih (ms:=[0,1]) (by simp) (fun hf T M n t2 t3 m0=>?_) (fun hf T t4 t2 t1=>?_)
  ·rw[if_neg (by rw[hf];simp)]at hR
   subst hR
   simp[t2,t3,m0,zaf]
  ·rw[if_pos hf]at hR
   generalize (zaD t.kids).1=l at*
   simp[t1,k]
   refine fzK.mk [1] ?_
   have z:List.take l.length (List.map Typ.enc l)=List.map Typ.enc l:=List.take_of_length_le (by simp)
   simp[zak,t4,t1,zbH,z]
   refine zac.mk (zvn _ _) ?_
   rw[show zcE t.names l=R by rw[<-hR];rfl]
   simp[zak,t2]
 ·have hR:=hk 6 k
  simp[k]
  refine owK.mk [.t 4] ?_
  simp
  refine zqb hp t hl ih (ms:=[0,1]) (by simp) (fun hf T M n t2 t3 m0=>?_) (fun hf T t4 t2 t1=>?_)
  ·rw[if_neg (by rw[hf];simp)]at hR
   subst hR
   simp[t2,t3,m0,zaf]
  ·rw[if_pos hf]at hR
   generalize (zaD t.kids).1=l at*
   have hR:(Typ.mk 6 (bs []) [] l,decide (l.length=2))=R:=by rw[<-hR];try rfl
   subst hR
   have z:List.take l.length (List.map Typ.enc l)=List.map Typ.enc l:=List.take_of_length_le (by simp)
   have hd:decide ((l.length:Int)=2)=decide (l.length=2):=by
    by_cases h:l.length=2
    ·simp[h]
    ·have h':¬(l.length:Int)=2:=by omega
     simp[h,h']
   simp[t1,k,t4,t2]
   exact⟨by rw[z,Typ.enc_eq];rfl,by omega⟩
 ·have hR:=hk 7 k
  simp[k]
  refine owK.mk [.t 4] ?_
  simp
  refine zqb hp t hl ih (ms:=[0,1]) (by simp) (fun hf T M n t2 t3 m0=>?_) (fun hf T t4 t2 t1=>?_)
  ·rw[if_neg (by rw[hf];simp)]at hR
   subst hR
   simp[t2,t3,m0,zaf]
  ·rw[if_pos hf]at hR
   have hu:=zwE (zaD t.kids).1 (by omega) (by omega)
   generalize (zaD t.kids).1=l at*
   have z:List.take l.length (List.map Typ.enc l)=List.map Typ.enc l:=List.take_of_length_le (by simp)
   simp[t1,k]
   refine fzK.mk [1] ?_
   simp[zak,t4,t1,zbH,z]
   refine zac.mk hu ?_
   rw[show zdU l=R by rw[<-hR];rfl]
   simp[zak,t2]
mutual
theorem zsv:∀t:Typ,fewT t->PCall Pg 114 [.agg t.enc] (.tup [.agg (zaP t).1.enc,.one (.bool (zaP t).2)])
 |.mk k n s l,h=>by
  rw[fewT]at h
  exact zxc (.mk k n s l) h.1 (fun e he=>zqc l h.2 e he)
theorem zqc:∀l:List Typ,zdY l->∀e,e∈l->PCall Pg 114 [.agg e.enc] (.tup [.agg (zaP e).1.enc,.one (.bool (zaP e).2)])
 |[],_,e,h=>by cases h
 |d::l,hf,e,h=>by
  rw[zdY]at hf
  cases h with
  |head=>exact zsv d hf.1
  |tail _ h=>exact zqc l hf.2 e h
end
theorem zeN(t:Typ):PCall Pg 73 [.agg t.enc] (.tup [.agg (zaS t).1.enc,.one (.int .i64 (zaS t).2)]):=by
 refine ztf (by simp) fun o c hN hp=>?_
 obtain⟨R,hR⟩:∃R,zaS t=R:=⟨_,rfl⟩
 rw[hR]
 unfold zaS at hR
 unfold mc_g03_Norm
 simp
 refine zac.mk (zjM t) ?_
 by_cases h1:16<za4 17 t
 ·rw[if_pos (.inl h1)]at hR
  subst hR
  simp[h1,zaf]
 simp[h1]
 refine zac.mk (znD t) ?_
 by_cases h2:200<za0 t 201
 ·rw[if_pos (.inr h2)]at hR
  subst hR
  simp[h2,zaf]
 rw[if_neg (by omega)]at hR
 have hf:=zgj t 201 (by omega) (by omega)
 simp[h2]
 refine zac.mk (zsv t hf) ?_
 by_cases h3:(zaP t).2=true
 ·rw[if_pos h3]at hR
  subst hR
  simp[h3]
 ·rw[if_neg h3]at hR
  subst hR
  simp[h3,zaf]
theorem zbP(t:Typ):PCall Pg 48 [.agg t.enc] (.one (.bool (isNR t))):=by
 refine zpG (by simp) fun o c hN hp=>?_
 unfold mc_g06_Normal isNR
 simp
 refine zac.mk (zeN t) ?_
 generalize zaS t=R
 simp
 refine zac.mk (zf0 _ _) ?_
 by_cases h:R.2=0
 ·simp[h]
 ·simp[h]
end Go.Gr
namespace Go.Gr
open Go.Abs Go.Proofs
mutual
theorem zog:∀(a b:Typ),za5 a b=true↔a=b
 |.mk k n s l,.mk k' n' s' l'=>by
  rw[za5,Bool.and_eq_true,Bool.and_eq_true,Bool.and_eq_true,decide_eq_true_eq,decide_eq_true_eq,decide_eq_true_eq,zmh,Typ.mk.injEq]
  exact Iff.rfl
theorem zmh:∀(a b:List Typ),zdj a b=true↔a=b
 |[],[]=>by simp[zdj]
 |[],_::_=>by simp[zdj]
 |_::_,[]=>by simp[zdj]
 |a::l,b::k=>by
  simp only[zdj,Bool.and_eq_true,List.cons.injEq]
  rw[zog a b,zmh l k]
end
mutual
def wfT:Typ->Prop
 |.mk k n s l=>n=bs []/\wfTs l/\((0<=k/\k<=4/\s=[]/\l=[])\/(k=5/\s.length=l.length/\s.length<=16/\∀x,x∈s->za1 x=true)\/(k=6/\s=[]/\l.length=2)\/(k=7/\s=[]/\l.length<=6/\∀x,x∈l->1<=x.kind/\x.kind<=6))
def wfTs:List Typ->Prop
 |[]=>True
 |t::l=>wfT t/\wfTs l
end
theorem zd6:∀l:List Typ,wfTs l↔∀x,x∈l->wfT x
 |[]=>by simp[wfTs]
 |t::l=>by simp[wfTs,zd6 l]
theorem zaW(t:Typ):wfT t↔t.name=bs []/\(∀x,x∈t.kids->wfT x)/\((0<=t.kind/\t.kind<=4/\t.names=[]/\t.kids=[])\/(t.kind=5/\t.names.length=t.kids.length/\t.names.length<=16/\∀x,x∈t.names->za1 x=true)\/(t.kind=6/\t.names=[]/\t.kids.length=2)\/(t.kind=7/\t.names=[]/\t.kids.length<=6/\∀x,x∈t.kids->1<=x.kind/\x.kind<=6)):=by
 cases t;rw[wfT,zd6];try rfl
theorem zbE(k:Int)(h0:0<=k)(h4:k<=4):wfT (bT k):=(zaW _).2 ⟨rfl,fun x h=>(by cases h),.inl ⟨h0,h4,rfl,rfl⟩⟩
theorem zbh:wfT noT:=zbE 0 (by omega) (by omega)
theorem znr:∀(ss:List ByteArray) (ts:List Typ) (ns:List ByteArray) (ks:List Typ),ss.length=ts.length->ns.length=ks.length->(∀x,x∈ns->za1 x=true)->(recR ss ts ns ks).2=true->
  (recR ss ts ns ks).1.1.length=(recR ss ts ns ks).1.2.length/\(recR ss ts ns ks).1.1.length=ns.length+ss.length/\(∀x,x∈(recR ss ts ns ks).1.1->za1 x=true)/\∀x,x∈(recR ss ts ns ks).1.2->x∈ks\/x∈ts
 |[],ts,ns,ks,h0,h1,h2,h=>by
  cases ts with
  |nil=>rw[recR];exact⟨h1,rfl,h2,fun x hx=>.inl hx⟩;all_goals (intros;contradiction)
  |cons _ _=>simp at h0
 |s::ss,[],ns,ks,h0,h1,h2,h=>by simp at h0
 | s ::ss,t::ts,ns,ks,h0,h1,h2,h=>by
  have hp:=znz s ns
  rw[recR]at h⊢
  by_cases q:za1 s=false\/ns[posR s ns]?=some s
  ·rw[if_pos q]at h;cases h
  rw[if_neg q]at h⊢
  have hs:za1 s=true:=by
   cases e:za1 s with
   |true=>rfl
   |false=>exact absurd (.inl e) q
  have i:=znr ss ts (ns.take (posR s ns)++s::ns.drop (posR s ns)) (ks.take (posR s ns)++t::ks.drop (posR s ns)) (by simpa using h0) (by simp;omega) (fun x hx=>by
   rcases List.mem_append.1 hx with hx|hx
   ·exact h2 x (List.mem_of_mem_take hx)
   ·rcases List.mem_cons.1 hx with rfl|hx
    ·exact hs
    ·exact h2 x (List.mem_of_mem_drop hx)) h
  refine⟨i.1,?_,i.2.2.1,fun x hx=>?_⟩
  ·rw[i.2.1];simp;omega
  ·rcases i.2.2.2 x hx with hx|hx
   ·rcases List.mem_append.1 hx with hx|hx
    ·exact .inl (List.mem_of_mem_take hx)
    ·rcases List.mem_cons.1 hx with rfl|hx
     ·exact .inr (by simp)
     ·exact .inl (List.mem_of_mem_drop hx)
   ·exact .inr (by simp[hx])
theorem zyR{l:List Typ}(h:∀x,x∈l->wfT x):∀y,y∈l.flatMap mems->wfT y:=fun y hy=>by
 obtain⟨x,hx,hy⟩:=List.mem_flatMap.1 hy
 unfold mems at hy
 split at hy
 ·exact((zaW x).1 (h x hx)).2.1 y hy
 ·simp at hy;subst hy;exact h y hx
theorem zwX{y:Typ}(h:zax y∈([0,1,2,3,4,5]:List Int)):1<=y.kind/\y.kind<=6:=by
 unfold zax at h
 split at h
 ·simp at h
 ·omega
theorem zzG(k:Int)(s:List ByteArray)(l:List Typ)(hl:∀x,x∈l->wfT x)(hk:5<=k/\k<=7)(h:(finR k s l).2=true):wfT (finR k s l).1:=by
 unfold finR at h⊢
 by_cases k5:k=5
 ·rw[if_pos k5]at h⊢
  unfold zcE at h⊢
  by_cases q:s.length≠l.length\/16<s.length
  ·rw[if_pos q]at h;cases h
  rw[if_neg q]at h⊢
  have i:=znr s l [] [] (by omega) rfl (by simp) h
  refine(zaW _).2 ⟨rfl,fun x hx=>?_,.inr (.inl ⟨rfl,i.1,?_,i.2.2.1⟩)⟩
  ·rcases i.2.2.2 x hx with hx|hx
   ·cases hx
   ·exact hl x hx
  ·show(recR s l [] []).1.1.length<=16
   rw[i.2.1];simp;omega
 rw[if_neg k5]at h⊢
 by_cases k6:k=6
 ·rw[if_pos k6]at h⊢
  simp only[decide_eq_true_eq]at h
  exact(zaW _).2 ⟨rfl,hl,.inr (.inr (.inl ⟨rfl,rfl,h⟩))⟩
 rw[if_neg k6]at h⊢
 unfold zdU at h⊢
 have hm:=zgP (l.flatMap mems) [0,1,2,3,4,5] []
 have hlen:=zjw (l.flatMap mems) [0,1,2,3,4,5] []
 simp only at h⊢
 generalize zbs (l.flatMap mems) [0,1,2,3,4,5] []=r at*
 have hw:∀y,y∈r.1->wfT y/\1<=y.kind/\y.kind<=6:=fun y hy=>by
  rcases hm y hy with q|⟨q1,q2⟩
  ·cases q
  ·exact⟨zyR hl y q1,zwX q2⟩
 have seven:∀L:List Typ,L.length<=6->(∀y,y∈L->wfT y/\1<=y.kind/\y.kind<=6)->wfT (.mk 7 (bs []) [] L):=fun L hn hL=>(zaW _).2 ⟨rfl,fun x hx=>(hL x hx).1,.inr (.inr (.inr ⟨rfl,rfl,hn,fun x hx=>(hL x hx).2⟩))⟩
 by_cases q:r.2=true
 ·rw[if_pos q]at h⊢
  split
  ·rename_i x e
   exact(hw x (by rw[e];simp)).1
  ·exact seven _ (by simpa using hlen) hw
 ·rw[if_neg q]at h;cases h
mutual
theorem zns:∀t:Typ,(zaP t).2=true->wfT (zaP t).1
 | .mk k n s l,h=>by
  rw[zaP]at h⊢
  by_cases q:5<=k/\k<=7
  ·rw[if_pos q]at h⊢
   by_cases q2:(zaD l).2=true
   ·rw[if_pos q2]at h⊢
    exact zzG k s _ (zp3 l q2) q h
   ·rw[if_neg q2]at h;cases h
  ·rw[if_neg q]at h⊢
   by_cases q2:0<=k/\k<=4
   ·rw[if_pos q2];exact zbE k q2.1 q2.2
   ·rw[if_neg q2]at h;cases h
theorem zp3:∀l:List Typ,(zaD l).2=true->∀x,x∈(zaD l).1->wfT x
 |[],_,x,hx=>by rw[zaD]at hx;cases hx
 | t::l,h,x,hx=>by
  rw[zaD]at h hx
  by_cases q:(zaP t).2=true
  ·rw[if_pos q]at h hx
   rcases List.mem_cons.1 hx with rfl|hx
   ·exact zns t q
   ·exact zp3 l h x hx
  ·rw[if_neg q]at h;cases h
end
theorem zhv(t:Typ):wfT (zaS t).1:=by
 unfold zaS
 split
 ·exact zbh
 split
 ·rename_i h;exact zns t h
 ·exact zbh
theorem zep{t:Typ}(h:(zaS t).2=0):(zaP t).2=true/\za0 t 201<=200/\za4 17 t<=16/\(zaS t).1=(zaP t).1:=by
 unfold zaS at h⊢
 by_cases q:16<za4 17 t\/200<za0 t 201
 ·rw[if_pos q]at h;cases h
 rw[if_neg q]at h⊢
 by_cases q2:(zaP t).2=true
 ·rw[if_pos q2];exact⟨q2,by omega,by omega,rfl⟩
 ·rw[if_neg q2]at h;cases h
theorem zgg{t:Typ}:isNR t=true↔(zaS t).2=0/\(zaS t).1=t:=by
 unfold isNR;rw[Bool.and_eq_true,decide_eq_true_eq,zog]
theorem zcY{t:Typ}(h:isNR t=true):wfT t:=by
 have h:=zgg.1 h
 rw[<-h.2];exact zhv t
theorem zwY{t:Typ}(h:isNR t=true):fewT t/\za0 t 201<=200:=by
 have h:=zep (zgg.1 h).1
 exact⟨zgj t 201 (by omega) (by omega),h.2.1⟩
mutual
def cntT:Typ->Nat
 |.mk _ _ _ l=>cntTs l+1
def cntTs:List Typ->Nat
 |[]=>0
 |t::l=>cntT t+cntTs l
end
mutual
theorem zlt:∀(t:Typ) (m:Int),za0 t m<m->za0 t m=cntT t
 |.mk k n s l,m,h=>by
  rw[za0]at h⊢
  have:=zoh l m 1 (by omega) h
  rw[cntT];omega
theorem zoh:∀(l:List Typ) (m n:Int),1<=n->za8 l m n<m->za8 l m n=n+cntTs l
 |[],m,n,h1,h=>by rw[za8,cntTs];omega
 | t::l,m,n,h1,h=>by
  have hle:=zit t (m-n)
  rw[za8]at h⊢
  by_cases q:n<m
  ·rw[if_pos q]at h⊢
   have hle2:=zgT l m (n+za0 t (m-n)) (by omega)
   have i1:=zoh l m (n+za0 t (m-n)) (by omega) h
   have i2:=zlt t (m-n) (by omega)
   rw[cntTs];omega
  ·rw[if_neg q]at h;omega
end
theorem zyS(t:Typ):1<=cntT t:=by cases t;rw[cntT];omega
theorem zjp:∀{l:List Typ} {x:Typ},x∈l->cntT x<=cntTs l
 |t::l,x,h=>by
  rw[cntTs]
  rcases List.mem_cons.1 h with rfl|h
  ·omega
  ·have:=zjp h;omega
theorem zie{t:Typ}(h:isNR t=true):cntT t<=200:=by
 have h:=(zwY h).2
 have:=zlt t 201 (by omega)
 omega
end Go.Gr
namespace Go.Gr
open Go.Abs Go.Proofs
theorem zjo{s:ByteArray}(h:za1 s=true):s.size<=32:=by
 unfold za1 at h
 split at h
 ·cases h
 ·simp at h;exact h.1
@[simp] theorem zdn(l:List Nat):(bs l).size=l.length:=by
 show(bs l).data.size=_
 simp[bs]
theorem zoe(k:Int)(n:ByteArray)(s:List ByteArray)(l:List Typ)(br:Bool):zbW (.mk k n s l) br=
  if k=0 then bs [97,110,121]else if k=1 then bs [110,117,108,108]else if k=2 then bs [98,111,111,108]else if k=3 then bs [105,110,116]else if k=4 then bs [115,116,114]
  else if k=5 then bs [123]++zcd s l (bs []) 0++bs [125]
  else if k=6 then(match l with
   |a::b::_=>if br=true then bs [40]++(zbW a true++bs [32,45,62,32]++zbW b false)++bs [41]else zbW a true++bs [32,45,62,32]++zbW b false
   |_=>bs [])
  else ze4 l (bs []) 0:=by rw[zbW.eq_def];try rfl
mutual
theorem zcg:∀(t:Typ) (br:Bool),wfT t->(zbW t br).size+60<=100*cntT t
 | .mk k n s l,br,h=>by
  have hw:=h
  rw[wfT,zd6]at h
  obtain⟨_,hl,hc⟩:=h
  have hl':=(zd6 l).2 hl
  rw[zoe,cntT]
  split
  ·simp;omega
  split
  ·simp;omega
  split
  ·simp;omega
  split
  ·simp;omega
  split
  ·simp;omega
  split
  ·rename_i k5
   subst k5
   have hc:s.length=l.length/\s.length<=16/\∀x,x∈s->za1 x=true:=by
    rcases hc with⟨_,q,_⟩|⟨_,q⟩|⟨q,_⟩|⟨q,_⟩
    ·omega
    ·exact q
    ·omega
    ·omega
   have:=zg4 s l (bs []) 0 hl' hc.2.2
   simp at this⊢
   omega
  split
  ·rename_i k6
   subst k6
   have hc:l.length=2:=by
    rcases hc with⟨_,q,_⟩|⟨q,_⟩|⟨_,_,q⟩|⟨q,_⟩
    ·omega
    ·omega
    ·exact q
    ·omega
   match l,hc,hl' with
   |[a,b],_,hl'=>
    rw[wfTs,wfTs]at hl'
    have ha:=zcg a true hl'.1
    have hb:=zcg b false hl'.2.1
    simp only[cntTs]
    split
    ·simp;omega
    ·simp;omega
  ·have:=zof l (bs []) 0 hl'
   simp at this
   omega
theorem zg4:∀(s:List ByteArray) (l:List Typ) (out:ByteArray) (i:Nat),wfTs l->(∀x,x∈s->za1 x=true)->(zcd s l out i).size<=out.size+100*cntTs l
 |[],l,out,i,h,hn=>by rw[zcd];omega;all_goals (intros;contradiction)
 |_::_,[],out,i,h,hn=>by rw[zcd];omega;all_goals (intros;contradiction)
 |s::ss,t::ts,out,i,h,hn=>by
  rw[wfTs]at h
  have h1:=zcg t false h.1
  have h3:=zjo (hn s (by simp))
  rw[zcd,cntTs]
  have h2:=zg4 ss ts ((if 0<i then out++bs [44,32]else out)++s++bs [58,32]++zbW t false) (i+1) h.2 (fun x hx=>hn x (by simp[hx]))
  refine Nat.le_trans h2 ?_
  split<;>simp<;>omega
theorem zof:∀(l:List Typ) (out:ByteArray) (i:Nat),wfTs l->(ze4 l out i).size<=out.size+100*cntTs l
 |[],out,i,h=>by rw[ze4];omega
 |t::ts,out,i,h=>by
  rw[wfTs]at h
  have h1:=zcg t true h.1
  rw[ze4,cntTs]
  have h2:=zof ts ((if 0<i then out++bs [32,124,32]else out)++zbW t true) (i+1) h.2
  refine Nat.le_trans h2 ?_
  split<;>simp<;>omega
end
abbrev zgd(e:Typ):Prop:=∀br:Bool,PCall Pg 91 [.agg e.enc,.one (.bool br)] (.one (.str (zbW e br)))
set_option maxRecDepth 20000 in
theorem zwR{c:Ctx}(hp:c.pure)(t:Typ)(hw:wfTs t.kids)(hn:t.names.length=t.kids.length)(hnm:∀x,x∈t.names->za1 x=true)(hc:cntTs t.kids<=1000)(hl:t.names.length<=1000)(ih:∀e,e∈t.kids->zgd e)(R:ByteArray)(hR:zcd t.names t.kids (bs []) 0=R){Q:Exit->St->Prop}{S:St}{g}{ms:List Nat}
  (h0:Match ms S [(6,.c (.d (.int .i64 0))),(5,.c (.d (.str (bs [])))),(2,.c (.d (.rp t.enc 0)))] [])
  (hQ:∀T M n,Abs.look T 5=.c (.d (.str R))->Q (.exit 1) ⟨T,M,n⟩):lw_ Pg c lp_g03_show_1 Q g S:=by
 refine W.loop zab hp (fun x:Nat × ByteArray=>x.1<=t.names.length/\x.2.size+100*cntTs (t.kids.drop x.1)<=100*cntTs t.kids/\zcd (t.names.drop x.1) (t.kids.drop x.1) x.2 x.1=R) (fun x=>[(6,.c (.d (.int .i64 x.1))),(5,.c (.d (.str x.2))),(2,.c (.d (.rp t.enc 0)))]) (fun _=>[]) (fun x=>t.names.length-x.1) (0,bs []) ms ⟨by simp,by simp,by simpa using hR⟩ h0 fun⟨j,out⟩ ⟨h1,h2,h3⟩=>?_
 unfold lp_g03_show_1
 simp only at h1 h2 h3
 simp
 refine gd.mk (fun h=>?_) (fun h=>?_)
 ·have hj:j<t.names.length:=by simpa using h
  have hj2:j<t.kids.length:=by omega
  rw[List.drop_eq_getElem_cons hj,List.drop_eq_getElem_cons hj2,zcd]at h3
  rw[List.drop_eq_getElem_cons hj2,cntTs]at h2
  have hnx:=zjo (hnm _ (List.getElem_mem hj))
  have hsx:=zcg t.kids[j] false ((zd6 _).1 hw _ (List.getElem_mem hj2))
  have hix:=ih _ (List.getElem_mem hj2) false
  by_cases h0:j=0
  ·subst h0
   simp only[Nat.lt_irrefl,if_false]at h3
   simp[hj,hj2,zah]
   refine⟨by omega,by omega,?_⟩
   refine zac.mk hix ?_
   simp[zah]
   refine⟨by omega,by decide,?_⟩
   refine Abs.Next.mk (0+1,_) [] ⟨by simp only;omega,?_,h3⟩ (by simp only;omega) ?_
   ·simp only[ByteArray.size_append,zdn,List.length_cons,List.length_nil];omega
   ·simp
    decide
  ·have h0':(0:Int)<j:=by omega
   have h0'':0<j:=by omega
   rw[if_pos h0'']at h3
   simp[h0',h0'',hj,hj2,zah]
   refine⟨by omega,by omega,by omega,?_⟩
   refine zac.mk hix ?_
   simp[zah]
   refine⟨by omega,by decide,?_⟩
   refine Abs.Next.mk (j+1,_) [] ⟨by simp only;omega,?_,h3⟩ (by simp only;omega) ?_
   ·simp;omega
   ·simp
    exact wrap_i64 (by omega) (by omega)
 ·have hj:j=t.names.length:=by simp at h;omega
  subst hj
  rw[List.drop_length,zcd]at h3
  ·subst h3
   exact hQ _ _ _ (by simp)
  ·intros;contradiction
set_option maxRecDepth 20000 in
theorem zwS{c:Ctx}(hp:c.pure)(t:Typ)(hw:wfTs t.kids)(hc:cntTs t.kids<=1000)(hl:t.kids.length<=1000)(ih:∀e,e∈t.kids->zgd e)(R:ByteArray)(hR:ze4 t.kids (bs []) 0=R){Q:Exit->St->Prop}{S:St}{g}{ms:List Nat}
  (h0:Match ms S [(7,.c (.d (.int .i64 0))),(5,.c (.d (.str (bs [])))),(2,.c (.d (.rp t.enc 0)))] [])
  (hQ:∀T M n,Abs.look T 5=.c (.d (.str R))->Q (.exit 3) ⟨T,M,n⟩):lw_ Pg c zfp Q g S:=by
 refine W.loop zab hp (fun x:Nat × ByteArray=>x.1<=t.kids.length/\x.2.size+100*cntTs (t.kids.drop x.1)<=100*cntTs t.kids/\ze4 (t.kids.drop x.1) x.2 x.1=R) (fun x=>[(7,.c (.d (.int .i64 x.1))),(5,.c (.d (.str x.2))),(2,.c (.d (.rp t.enc 0)))]) (fun _=>[]) (fun x=>t.kids.length-x.1) (0,bs []) ms ⟨by simp,by simp,by simpa using hR⟩ h0 fun⟨j,out⟩ ⟨h1,h2,h3⟩=>?_
 unfold zfp
 simp only at h1 h2 h3
 simp
 refine gd.mk (fun h=>?_) (fun h=>?_)
 ·have hj2:j<t.kids.length:=by simpa using h
  rw[List.drop_eq_getElem_cons hj2,ze4]at h3
  rw[List.drop_eq_getElem_cons hj2,cntTs]at h2
  have hsx:=zcg t.kids[j] true ((zd6 _).1 hw _ (List.getElem_mem hj2))
  have hix:=ih _ (List.getElem_mem hj2) true
  by_cases h0:j=0
  ·subst h0
   simp only[Nat.lt_irrefl,if_false]at h3
   simp[hj2,zah]
   refine zac.mk hix ?_
   simp[zah]
   refine⟨by omega,?_⟩
   refine Abs.Next.mk (0+1,_) [] ⟨by simp only;omega,?_,h3⟩ (by simp only;omega) ?_
   ·simp only[ByteArray.size_append,zdn,List.length_cons,List.length_nil];omega
   ·simp
    decide
  ·have h0':(0:Int)<j:=by omega
   have h0'':0<j:=by omega
   rw[if_pos h0'']at h3
   simp[h0',h0'',hj2,zah]
   refine⟨by omega,?_⟩
   refine zac.mk hix ?_
   simp[zah]
   refine⟨by omega,?_⟩
   refine Abs.Next.mk (j+1,_) [] ⟨by simp only;omega,?_,h3⟩ (by simp only;omega) ?_
   ·simp;omega
   ·simp
    exact wrap_i64 (by omega) (by omega)
 ·have hj:j=t.kids.length:=by simp at h;omega
  subst hj
  rw[List.drop_length,ze4]at h3
  subst h3
  exact hQ _ _ _ (by simp)
set_option maxRecDepth 20000 in
theorem zwT(t:Typ)(hw:wfT t)(hc:cntT t<=1000)(ih:∀e,e∈t.kids->zgd e):zgd t:=by
 intro br
 refine zti (by simp) fun o c hN hp=>?_
 obtain⟨R,hR⟩:∃R,zbW t br=R:=⟨_,rfl⟩
 rw[hR]
 have hwf:=(zaW t).1 hw
 have hws:=(zd6 t.kids).2 hwf.2.1
 have hcs:cntT t=cntTs t.kids+1:=by cases t;rw[cntT];try rfl
 have hd:=zoe t.kind t.name t.names t.kids br
 rw[show Typ.mk t.kind t.name t.names t.kids=t by cases t;rfl,hR]at hd
 have hll:∀l:List Typ,l.length<=cntTs l:=by
  intro l
  induction l with
  |nil=>simp
  |cons x l ih=>have:=zyS x;simp[cntTs];omega
 have hkl:=hll t.kids
 unfold zkU
 by_cases k0:t.kind=0
 ·simp[k0]at hd
  simp[k0,hd]
 by_cases k1:t.kind=1
 ·simp[k1]at hd
  simp[k1,hd]
 by_cases k2:t.kind=2
 ·simp[k2]at hd
  simp[k2,hd]
 by_cases k3:t.kind=3
 ·simp[k3]at hd
  simp[k3,hd]
 by_cases k4:t.kind=4
 ·simp[k4]at hd
  simp[k4,hd]
 by_cases k5:t.kind=5
 ·simp[k5]at hd
  have hn:t.names.length=t.kids.length/\t.names.length<=16/\∀x,x∈t.names->za1 x=true:=by
   rcases hwf.2.2 with⟨_,q,_⟩|⟨_,q⟩|⟨q,_⟩|⟨q,_⟩
   ·omega
   ·exact q
   ·omega
   ·omega
  have hfs:=zg4 t.names t.kids (bs []) 0 hws hn.2.2
  simp only[zdn,List.length_nil,Nat.zero_add]at hfs
  simp[k5]
  refine zwR hp t hws hn.1 hn.2.2 (by omega) (by omega) ih _ rfl (ms:=[]) (by simp) fun T M n t5=>?_
  generalize zcd t.names t.kids (bs []) 0=f at*
  simp[t5,zah]
  refine⟨by omega,by omega,?_⟩
  rw[hd]
 by_cases k6:t.kind=6
 ·have hn:t.kids.length=2:=by
   rcases hwf.2.2 with⟨_,q,_⟩|⟨q,_⟩|⟨_,_,q⟩|⟨q,_⟩
   ·omega
   ·omega
   ·exact q
   ·omega
  obtain⟨a,b,hab⟩:∃a b,t.kids=[a,b]:=by
   match t.kids,hn with
   |[a,b],_=>exact⟨a,b,rfl⟩
  have hia:=ih a (by rw[hab];simp) true
  have hib:=ih b (by rw[hab];simp) false
  have hsa:=zcg a true (hwf.2.1 a (by rw[hab];simp))
  have hsb:=zcg b false (hwf.2.1 b (by rw[hab];simp))
  rw[hab]at hcs hd
  simp only[cntTs]at hcs
  simp[k6]at hd
  simp[k6,hab,zah]
  refine zac.mk hia ?_
  simp[hab,zah]
  refine⟨by omega,?_⟩
  refine zac.mk hib ?_
  generalize zbW a true=sa at*
  generalize zbW b false=sb at*
  simp[zah]
  refine⟨by omega,by decide,?_⟩
  cases br with
  |true=>
   simp at hd
   simp[zah]
   refine⟨by omega,by omega,?_⟩
   rw[hd]
  |false=>
   simp at hd
   simp[hd]
 ·simp[k0,k1,k2,k3,k4,k5,k6]at hd
  simp[k0,k1,k2,k3,k4,k5,k6]
  refine zwS hp t hws (by omega) (by omega) ih R hd.symm (ms:=[]) (by simp) fun T M n t5=>?_
  simp[t5]
mutual
theorem zsm:∀t:Typ,wfT t->cntT t<=1000->zgd t
 |.mk k n s l,hw,hc=>by
  have hws:=hw
  rw[wfT]at hws
  rw[cntT]at hc
  exact zwT (.mk k n s l) hw (by rw[cntT];omega) (fun e he=>zpZ l hws.2.1 (by omega) e he)
theorem zpZ:∀l:List Typ,wfTs l->cntTs l<=1000->∀e,e∈l->zgd e
 |[],_,_,e,h=>by cases h
 |d::l,hw,hc,e,h=>by
  rw[wfTs]at hw
  rw[cntTs]at hc
  cases h with
  |head=>exact zsm d hw.1 (by omega)
  |tail _ h=>exact zpZ l hw.2 (by omega) e h
end
theorem zkl(t:Typ):PCall Pg 58 [.agg t.enc] (.one (.str (zd1 t))):=by
 refine zth (by simp) fun o c hN hp=>?_
 obtain⟨R,hR⟩:∃R,zd1 t=R:=⟨_,rfl⟩
 rw[hR]
 unfold zd1 at hR
 have hi:isNR t=(decide ((zaS t).2=0)&&za5 (zaS t).1 t):=rfl
 have hsh:isNR t=true->zgd t:=fun h=>zsm t (zcY h) (by have:=zie h;omega)
 unfold mc_g03_Show
 simp
 refine zac.mk (zeN t) ?_
 generalize zaS t=N at*
 simp
 refine zac.mk (zf0 _ _) ?_
 by_cases h:N.2=0
 ·by_cases h2:za5 N.1 t=true
  ·have hx:isNR t=true:=by rw[hi];simp[h,h2]
   rw[if_pos hx]at hR
   simp[h,h2]
   refine zac.mk (hsh hx false) ?_
   simp[hR]
  ·have hx:¬isNR t=true:=by rw[hi];simp[h,h2]
   rw[if_neg hx]at hR
   subst hR
   simp[h,h2]
 ·have hx:¬isNR t=true:=by rw[hi];simp[h]
  rw[if_neg hx]at hR
  subst hR
  simp[h]
end Go.Gr
namespace Go.Gr
open Go.Abs Go.Proofs
theorem PCall.erdV{P:Program}{f:FuncId}{args:List DV}{v v':DV}(h:PCall P f args v)(e:v.erd=v'):PCall P f args v':=by
 subst e
 refine⟨h.1,fun ph w us hp hG r=>(h.2 ph w us hp hG r).mono fun e w' q=>?_⟩
 obtain⟨vC,h',q1,q2,q3,q4,q5,q6,q7,q8⟩:=q
 exact⟨vC,h',q1,q2,q3,q4,q5,q6,q7,zaJ.erd q8⟩
@[simp] theorem Prt.enc_length(p:Prt):p.enc.length=6:=by simp[Prt.enc]
@[simp] theorem Prt.enc_0(p:Prt):p.enc[0]?=some (.int .i64 p.tag):=rfl
@[simp] theorem Prt.enc_g0(p:Prt)(h:0<p.enc.length):p.enc[0]=.int .i64 p.tag:=rfl
@[simp] theorem Prt.cut_t(p:Prt):cut p.enc 2 4=p.t.enc:=by unfold Prt.enc;rw[Typ.enc_eq];try rfl
@[simp] theorem Prt.cut_tM(p:Prt):cut (p.enc.map AC.d) 2 4=p.t.enc.map .d:=by unfold Prt.enc;rw[Typ.enc_eq];try rfl
@[simp] theorem Prt.er_map(p:Prt):p.enc.map D.er=p.enc:=by unfold Prt.enc;rw[Typ.enc_eq];try rfl
theorem zxa(a b c d e f:AC)(T:Typ):splice [a,b,c,d,e,f] 2 (T.enc.map AC.d)=a::b::T.enc.map .d:=by rw[T.enc_eq];try rfl
theorem zAw(a b:AC)(T:Typ):cut (a::b::T.enc.map AC.d) 0 6=a::b::T.enc.map .d:=by rw[T.enc_eq];try rfl
attribute [simp] zxa zAw
@[simp] theorem Prt.enc_4(p:Prt):p.enc[4]?=some (.sl false 1 (encS p.t.names)):=by unfold Prt.enc;rw[Typ.enc_eq];try rfl
@[simp] theorem Prt.enc_5(p:Prt):p.enc[5]?=some (.sl false 4 (p.t.kids.map Typ.enc)):=by unfold Prt.enc;rw[Typ.enc_eq];try rfl
@[simp] theorem Prt.enc_g4(p:Prt)(h:4<p.enc.length):p.enc[4]=.sl false 1 (encS p.t.names):=by have:=p.enc_4;rw[List.getElem?_eq_getElem h]at this;exact Option.some.inj this
@[simp] theorem Prt.enc_g5(p:Prt)(h:5<p.enc.length):p.enc[5]=.sl false 4 (p.t.kids.map Typ.enc):=by have:=p.enc_5;rw[List.getElem?_eq_getElem h]at this;exact Option.some.inj this
theorem zaG{α β:Type}(f:α->β)(v:List α):List.take v.length (v.map f)=v.map f:=List.take_of_length_le (by rw[List.length_map];exact Nat.le_refl _)
theorem zeM(l:List Prt)(tag:Int):PCall Pg 116 [.one (.sl false 6 (l.map Prt.enc)),.one (.int .i64 tag)] (.tup [.agg (partR l tag).1.enc,.one (.bool (partR l tag).2)]):=by
 refine ztj (by simp) fun o c hN hp=>?_
 have hl:l.length<=zah:=by have:=o.1;simp only[DV.ok,D.ok,List.length_map]at this;exact this.1
 unfold zah at hl
 obtain⟨R,hR⟩:∃R,partR l tag=R:=⟨_,rfl⟩
 rw[hR]
 unfold partR at hR
 unfold zkW
 simp
 refine W.loop zab hp (fun j:Nat=>j<=l.length/\(l.drop j).find? (fun p=>decide (p.tag=tag))=l.find? fun p=>decide (p.tag=tag)) (fun j=>[(6,.c (.d (.int .i64 j))),(4,.c (.ptr 0 0)),(1,.c (.d (.int .i64 tag))),(0,.c (.d (.sl false 6 (l.map Prt.enc))))]) (fun _=>[.box [.d (.int .i64 0),.d (.bool false),.d (.int .i64 0),.d (.str (bs [])),.d (.sl true 1 []),.d (.sl true 4 [])]]) (fun j=>l.length-j) 0 [0] ⟨by simp,by simp⟩ (by simp) fun j ⟨h1,h2⟩=>?_
 unfold lp_g06_part_0
 simp
 refine gd.mk (fun h=>?_) (fun h=>?_)
 ·have hj:j<l.length:=by simpa using h
  rw[List.drop_eq_getElem_cons hj,List.find?_cons]at h2
  obtain⟨x,hx⟩:∃x,l[j]=x:=⟨_,rfl⟩
  rw[hx]at h2
  by_cases q:x.tag=tag
  ·simp[q]at h2
   rw[<-h2]at hR
   subst hR
   simp[hj,hx,q]
  ·simp[q]at h2
   simp[hj,hx,q]
   refine Abs.Next.mk (j+1) [0] ⟨by omega,by simpa using h2⟩ (by omega) ?_
   simp
   exact wrap_i64 (by omega) (by omega)
 ·have hj:j=l.length:=by simp at h;omega
  subst hj
  rw[List.drop_length,List.find?_nil]at h2
  rw[<-h2]at hR
  subst hR
  simp
  rfl
theorem zly(t:Typ)(s:ByteArray)(hn:t.names.length<=t.kids.length):PCall Pg 117 [.agg t.enc,.one (.str s)] (.tup [.agg (zaz t s).1.enc,.one (.bool (zaz t s).2)]):=by
 refine zrx (by simp) fun o c hN hp=>?_
 have hf:=zhJ o.1
 unfold zah at hf
 obtain⟨R,hR⟩:∃R,zaz t s=R:=⟨_,rfl⟩
 rw[hR]
 unfold zaz at hR
 unfold zjg
 simp
 refine W.loop zab hp (fun j:Nat=>j<=t.names.length/\zbx (t.names.drop j) (t.kids.drop j) s=R) (fun j=>[(6,.c (.d (.int .i64 j))),(4,.c (.ptr 0 0)),(2,.c (.d (.rp t.enc 0))),(1,.c (.d (.str s)))]) (fun _=>[bx4]) (fun j=>t.names.length-j) 0 [0] ⟨by simp,by simpa using hR⟩ (by simp) fun j ⟨h1,h2⟩=>?_
 unfold lp_g06_Field_0
 simp
 refine gd.mk (fun h=>?_) (fun h=>?_)
 ·have hj:j<t.names.length:=by simpa using h
  have hj2:j<t.kids.length:=by omega
  rw[List.drop_eq_getElem_cons hj,List.drop_eq_getElem_cons hj2,zbx]at h2
  by_cases q:t.names[j]=s
  ·rw[if_pos q]at h2
   subst h2
   simp[hj,hj2,q]
  ·rw[if_neg q]at h2
   simp[hj,hj2,q]
   refine Abs.Next.mk (j+1) [0] ⟨by omega,h2⟩ (by omega) ?_
   simp
   exact wrap_i64 (by omega) (by omega)
 ·have hj:j=t.names.length:=by simp at h;omega
  subst hj
  rw[List.drop_length,zbx]at h2
  ·subst h2
   simp[zaf]
  ·intros;contradiction
def rawT(k:Int):List D:=[.int .i64 k,.str (bs []),.sl true 1 [],.sl true 4 []]
def rawA:List (List D):=[
 .int .i64 0::.bool false::rawT 1,.int .i64 1::.bool false::rawT 2,.int .i64 2::.bool false::rawT 3,.int .i64 3::.bool false::rawT 4,
 .int .i64 4::.bool true::rawT 5,[.int .i64 5,.bool false,.int .i64 6,.str (bs []),.sl true 1 [],.sl true 4 [rawT 0,rawT 0]]]
abbrev prtB(es:List (List D)):Blk:=.arr 6 (es.map (·.map .d))
set_option maxRecDepth 20000 in
theorem zu9(t:Typ)(h0:t.kind=0):PCall Pg 92 [.agg t.enc] (.one (.sl false 6 rawA)):=by
 refine zkV (by simp) fun o c hN hp=>?_
 unfold zgb
 simp[h0]
 refine owK.mk [.t 3] ?_
 simp
 refine W.loop zab hp (fun j:Nat=>j<=6) (fun j=>[(4,.c (.d (.int .i64 j))),(3,.c (.msl 6 0 0 j))]) (fun j=>[prtB (rawA.take j)]) (fun j=>6-j) 0 [0] (by simp) (by simp[rawA]) fun j h1=>?_
 unfold lp_g06_Parts_0
 have w1:IntKind.i64.wrap 1=1:=by decide
 have w2:IntKind.i64.wrap 2=2:=by decide
 have w3:IntKind.i64.wrap 3=3:=by decide
 have w4:IntKind.i64.wrap 4=4:=by decide
 have w5:IntKind.i64.wrap 5=5:=by decide
 have w6:IntKind.i64.wrap 6=6:=by decide
 have hc:j=0\/j=1\/j=2\/j=3\/j=4\/j=5\/j=6:=by omega
 rcases hc with rfl|rfl|rfl|rfl|rfl|rfl|rfl
 ·simp[rawA,rawT,w1,w2,w3,w4,w5,w6]
  refine Abs.Next.mk 1 [2] (by omega) (by omega) ?_
  simp[rawA,rawT,w1,w2,w3,w4,w5,w6]
 ·simp[rawA,rawT,w1,w2,w3,w4,w5,w6]
  refine Abs.Next.mk 2 [2] (by omega) (by omega) ?_
  simp[rawA,rawT,w1,w2,w3,w4,w5,w6]
 ·simp[rawA,rawT,w1,w2,w3,w4,w5,w6]
  refine Abs.Next.mk 3 [2] (by omega) (by omega) ?_
  simp[rawA,rawT,w1,w2,w3,w4,w5,w6]
 ·simp[rawA,rawT,w1,w2,w3,w4,w5,w6]
  refine Abs.Next.mk 4 [2] (by omega) (by omega) ?_
  simp[rawA,rawT,w1,w2,w3,w4,w5,w6]
 ·simp[rawA,rawT,w1,w2,w3,w4,w5,w6]
  refine Abs.Next.mk 5 [2] (by omega) (by omega) ?_
  simp[rawA,rawT,w1,w2,w3,w4,w5,w6]
 ·simp[rawA,rawT,w1,w2,w3,w4,w5,w6]
  refine Abs.Next.mk 6 [2] (by omega) (by omega) ?_
  simp[rawA,rawT,w1,w2,w3,w4,w5,w6]
 ·simp[rawA,rawT]
set_option maxRecDepth 20000 in
theorem zd7(t:Typ)(hk:t.kids.length<=1000):PCall Pg 92 [.agg t.enc] (.one (.sl false 6 ((zaH t).map Prt.enc))):=by
 by_cases h0:t.kind=0
 ·refine PCall.erdV (zu9 t h0) ?_
  unfold zaH
  rw[if_pos h0]
  try rfl
 refine zkV (by simp) fun o c hN hp=>?_
 have hf:=zhJ o.1
 unfold zah at hf
 obtain⟨R,hR⟩:∃R,zaH t=R:=⟨_,rfl⟩
 rw[hR]
 unfold zaH at hR
 rw[if_neg h0]at hR
 unfold zgb
 by_cases h7:t.kind=7
 rotate_left
 ·rw[if_pos h7]at hR
  subst hR
  simp[h0,h7]
  refine zac.mk (zmQ t) ?_
  simp[Prt.enc]
  decide
 rw[if_neg (fun z=>z h7)]at hR
 simp[h0,h7]
 refine owK.mk [.t 3] ?_
 simp
 subst hR
 refine W.loop zab hp (fun j:Nat=>j<=t.kids.length) (fun j=>[(6,.c (.d (.int .i64 j))),(3,.c (.msl 6 0 0 j)),(1,.c (.d (.rp t.enc 0)))]) (fun j=>[prtB (((t.kids.take j).map fun k=>(⟨zax k,false,k⟩:Prt)).map Prt.enc)]) (fun j=>t.kids.length-j) 0 [0] (by simp) (by simp) fun j h1=>?_
 unfold zhk
 simp
 refine gd.mk (fun h=>?_) (fun h=>?_)
 ·have hj:j<t.kids.length:=by simpa using h
  obtain⟨x,hx⟩:∃x,t.kids[j]=x:=⟨_,rfl⟩
  simp[hj,hx]
  refine zac.mk (zmQ x) ?_
  have hmn:min j t.kids.length=j:=by omega
  simp[Prt.enc,hj,hx,hmn]
  refine⟨by omega,by decide,?_⟩
  refine Abs.Next.mk (j+1) [1] (by omega) (by omega) ?_
  rw[List.take_succ_eq_append_getElem hj,hx]
  simp[Prt.enc,hmn]
  refine⟨wrap_i64 (by omega) (by omega),by rw[List.take_take,Nat.min_self],fun x hx=>?_⟩
  obtain⟨y,_,rfl⟩:=List.mem_map.1 (List.mem_of_mem_take hx)
  simp
 ·have hj:j=t.kids.length:=by simp at h;omega
  subst hj
  simp[zaG]
  try trace_state
theorem zgi:∀{l:List Typ} {x:Typ},x∈l->dpt x<=dpts l
 |t::l,x,h=>by
  rw[dpts]
  rcases List.mem_cons.1 h with rfl|h
  ·omega
  ·have:=zgi h;omega
theorem zdo{t x:Typ}(h:x∈t.kids):dpt x<dpt t:=by
 cases t with
 |mk k n s l=>rw[dpt];have:=zgi (l:=l) h;omega
theorem zfJ:∀(ns:List ByteArray) (ks:List Typ) (s:ByteArray),(zbx ns ks s).2=true->(zbx ns ks s).1∈ks
 |[],ks,s,h=>by rw[zbx]at h;cases h;all_goals (intros;contradiction)
 |_::_,[],s,h=>by rw[zbx]at h;cases h;all_goals (intros;contradiction)
 | n::ns,k::ks,s,h=>by
  rw[zbx]at h⊢
  by_cases q:n=s
  ·rw[if_pos q];simp
  ·rw[if_neg q]at h⊢
   exact List.mem_cons_of_mem _ (zfJ ns ks s h)
theorem zmr{t:Typ}(h:wfT t):t.names.length<=t.kids.length:=by
 rcases((zaW t).1 h).2.2 with⟨_,_,q,_⟩|⟨_,q,_⟩|⟨_,q,_⟩|⟨_,q,_⟩
 ·rw[q];simp
 ·omega
 ·rw[q];simp
 ·rw[q];simp
theorem zcU{t x:Typ}(h:wfT t)(hx:x∈t.kids):wfT x:=((zaW t).1 h).2.1 x hx
theorem zhy{t:Typ}(h:wfT t)(hk:t.kind=6):t.kids.length=2:=by
 rcases((zaW t).1 h).2.2 with⟨_,q,_⟩|⟨q,_⟩|⟨_,_,q⟩|⟨q,_⟩
 ·omega
 ·omega
 ·exact q
 ·omega
theorem tag5{t:Typ}(h:zax t=5):t.kind=6:=by
 unfold zax at h
 split at h
 ·omega
 ·omega
theorem zfd{t:Typ}(h:wfT t)(h0:t.kind≠0){p:Prt}(hp:p∈zaH t):wfT p.t/\p.tag=zax p.t/\(∀x,x∈p.t.kids->dpt x<dpt t)/\p.opn=false:=by
 unfold zaH at hp
 rw[if_neg h0]at hp
 split at hp
 ·simp at hp
  subst hp
  exact⟨h,rfl,fun x hx=>zdo hx,rfl⟩
 ·obtain⟨k,hk,rfl⟩:=List.mem_map.1 hp
  exact⟨zcU h hk,rfl,fun x hx=>Nat.lt_trans (zdo hx) (zdo hk),rfl⟩
theorem zdf{l:List Prt}{tag:Int}(h:(partR l tag).2=true):(partR l tag).1∈l/\(partR l tag).1.tag=tag:=by
 unfold partR at h⊢
 cases e:l.find? fun p=>decide (p.tag=tag)with
 |none=>rw[e]at h;cases h
 |some p=>
  have h1:=List.mem_of_find?_eq_some e
  have h2:=List.find?_some e
  exact⟨h1,by simpa using h2⟩
abbrev blwT(lo:Bool)(L R:List Prt)(i:Nat):List (Nat × AV):=[(9,.c (.d (.int .i64 i))),(8,.c (.d (.sl false 6 (R.map Prt.enc)))),(7,.c (.d (.sl false 6 (L.map Prt.enc)))),(2,.c (.d (.bool lo)))]
abbrev zms(lo:Bool)(rc:Typ->Typ->Bool)(a b:Typ):Prop:=PCall Pg 77 [.agg a.enc,.agg b.enc,.one (.bool lo)] (.one (.bool (rc a b)))
set_option maxRecDepth 20000 in
theorem zva{c:Ctx}(hp:c.pure)(lo:Bool)(L R:List Prt)(i:Nat)(q:Prt)(m:Typ)(rc:Typ->Typ->Bool)(hm:wfT m)(hq:wfT q.t)(hl:q.t.names.length<=1000)(ih:∀x,x∈m.kids->∀y,y∈q.t.kids->zms lo rc x y){Q:Exit->St->Prop}{S:St}{g}{ms:List Nat}
  (h0:Match ms S ((13,.c (.d (.int .i64 0)))::(12,.c (.ptr 1 0))::(10,.c (.ptr 0 0))::blwT lo L R i) [.box (q.enc.map .d),.box (m.enc.map .d)])
  (hN:zds rc m q.t.names q.t.kids=false->∀T M n,Abs.look T 6=.c (.d (.bool false))->Q .ret ⟨T,M,n⟩)
  (hQ:zds rc m q.t.names q.t.kids=true->∀T,Abs.look T 12=.c (.ptr 1 0)->Abs.look T 10=.c (.ptr 0 0)->Abs.look T 9=.c (.d (.int .i64 i))->Abs.look T 8=.c (.d (.sl false 6 (R.map Prt.enc)))->Abs.look T 7=.c (.d (.sl false 6 (L.map Prt.enc)))->Abs.look T 2=.c (.d (.bool lo))->Q (.exit 2) ⟨T,hpOf [.box (q.enc.map .d),.box (m.enc.map .d)],2⟩):lw_ Pg c lp_g06_below_2 Q g S:=by
 have hnk:=zmr hq
 obtain⟨F0,hF⟩:∃F0,zds rc m q.t.names q.t.kids=F0:=⟨_,rfl⟩
 rw[hF]at hN hQ
 refine W.loop zab hp (fun j:Nat=>j<=q.t.names.length/\zds rc m (q.t.names.drop j) (q.t.kids.drop j)=F0) (fun j=>(13,.c (.d (.int .i64 j)))::(12,.c (.ptr 1 0))::(10,.c (.ptr 0 0))::blwT lo L R i) (fun _=>[.box (q.enc.map .d),.box (m.enc.map .d)]) (fun j=>q.t.names.length-j) 0 ms ⟨by simp,by simpa using hF⟩ h0 fun j ⟨h1,h2⟩=>?_
 unfold lp_g06_below_2
 simp
 refine gd.mk (fun h=>?_) (fun h=>?_)
 ·have hj:j<q.t.names.length:=by simpa using h
  have hj2:j<q.t.kids.length:=by omega
  rw[List.drop_eq_getElem_cons hj,List.drop_eq_getElem_cons hj2,zds]at h2
  have hfm:=zfJ m.names m.kids q.t.names[j]
  have hff:zbx m.names m.kids q.t.names[j]=zaz m q.t.names[j]:=rfl
  rw[hff]at hfm
  simp[hj,hj2]
  refine zac.mk (zly m _ (zmr hm)) ?_
  generalize zaz m q.t.names[j]=f at*
  by_cases hf:f.2=true
  ·have hix:=ih _ (hfm hf) _ (List.getElem_mem hj2)
   simp only[hf,Bool.true_and]at h2
   simp[hf,hj,hj2]
   refine⟨by decide,?_⟩
   refine zac.mk hix ?_
   generalize rc f.1 q.t.kids[j]=z at*
   cases z with
   |true=>
    simp only[Bool.true_and]at h2
    simp
    refine⟨by decide,?_⟩
    refine Abs.Next.mk (j+1) [0,1] ⟨by omega,h2⟩ (by omega) ?_
    simp
    exact wrap_i64 (by omega) (by omega)
   |false=>
    simp only[Bool.false_and]at h2
    simp
    exact⟨by decide,hN h2.symm _ _ _ (by simp)⟩
  ·simp only[hf,Bool.false_and]at h2
   simp[hf,hj,hj2]
   exact⟨by decide,by decide,hN h2.symm _ _ _ (by simp)⟩
 ·have hj:j=q.t.names.length:=by simp at h;omega
  subst hj
  rw[List.drop_length,zds]at h2
  ·exact hQ h2.symm _ (by simp) (by simp) (by simp) (by simp) (by simp) (by simp)
  ·intros;contradiction
theorem zfY(t:Typ):1<=dpt t:=by cases t;rw[dpt];omega
theorem zlz{t:Typ}(h:wfT t):t.names.length<=16:=by
 rcases((zaW t).1 h).2.2 with⟨_,_,q,_⟩|⟨_,_,q,_⟩|⟨_,q,_⟩|⟨_,q,_⟩
 ·rw[q];simp
 ·omega
 ·rw[q];simp
 ·rw[q];simp
theorem zbF{t:Typ}(h:wfT t):t.kids.length<=16:=by
 rcases((zaW t).1 h).2.2 with⟨_,_,_,q⟩|⟨_,q,r,_⟩|⟨_,_,q⟩|⟨_,_,q,_⟩
 ·rw[q];simp
 ·omega
 ·omega
 ·omega
theorem zju(t:Typ):(zaH t).length<=6+t.kids.length:=by
 unfold zaH
 split
 ·simp
 split
 ·simp;omega
 ·simp
theorem zdg{t:Typ}(h:t.kids.length=2):kid0 t∈t.kids/\t.kids[0]?=some (kid0 t):=by
 unfold kid0
 match t.kids,h with
 |[a,b],_=>simp
theorem zcM{t:Typ}(h:t.kids.length=2):kid1 t∈t.kids/\t.kids[1]?=some (kid1 t):=by
 unfold kid1
 match t.kids,h with
 |[a,b],_=>simp
set_option maxRecDepth 20000 in
set_option maxHeartbeats 1000000 in
theorem zil(lo:Bool):∀(n:Nat) (a b:Typ),wfT a->wfT b->dpt a+dpt b<=n->zms lo (zb9 lo n) a b
 |0,a,b,_,_,h=>by have:=zfY a;omega
 | n + 1,a,b,wa,wb,hn=>by
  refine zry (by simp) fun o c hN hp=>?_
  obtain⟨F0,hF⟩:∃F0,zb9 lo (n+1) a b=F0:=⟨_,rfl⟩
  rw[hF]
  rw[zb9]at hF
  unfold zjh
  by_cases a0:a.kind=0
  ·rw[if_pos (.inl a0)]at hF
   cases lo with
   |true=>
    simp at hF
    simp[a0,hF]
   |false=>
    simp[a0]at hF
    simp[a0,hF]
  by_cases b0:b.kind=0
  ·rw[if_pos (.inr b0)]at hF
   cases lo with
   |true=>
    simp at hF
    simp[a0,b0,hF]
   |false=>
    rw[<-hF]
    simp[a0,b0]
  rw[if_neg (by omega)]at hF
  have hpa:=fun p hp=>zfd (p:=p) wa a0 hp
  have hpb:=fun p hp=>zfd (p:=p) wb b0 hp
  simp[a0,b0]
  refine zac.mk (zd7 a (by have:=zbF wa;omega)) ?_
  simp
  refine zac.mk (zd7 b (by have:=zbF wb;omega)) ?_
  have hL:(zaH a).length<=1000:=by have:=zbF wa;have:=zju a;omega
  generalize zaH a=L at*
  generalize zaH b=R at*
  simp
  refine W.loop zab hp (fun i:Nat=>i<=L.length/\((L.drop i).all fun p=>(partR R p.tag).2&&(zds (zb9 lo n) p.t (partR R p.tag).1.t.names (partR R p.tag).1.t.kids&&(!decide ((partR R p.tag).1.tag=5)||(zb9 lo n (kid0 (partR R p.tag).1.t) (kid0 p.t)&&zb9 lo n (kid1 p.t) (kid1 (partR R p.tag).1.t)))))=F0) (fun i=>blwT lo L R i) (fun _=>[]) (fun i=>L.length-i) 0 [] ⟨by simp,by simpa using hF⟩ (by simp) fun i ⟨i1,i2⟩=>?_
  unfold zhl
  simp
  refine gd.mk (fun h=>?_) (fun h=>?_)
  ·have hi:i<L.length:=by simpa using h
   rw[List.drop_eq_getElem_cons hi,List.all_cons]at i2
   obtain⟨p,hx⟩:∃p,L[i]=p:=⟨_,rfl⟩
   have hpm:=hpa p (by rw[<-hx];exact List.getElem_mem hi)
   rw[hx]at i2
   simp[hi,hx]
   refine zac.mk (zeM R p.tag) ?_
   have hq:=fun h=>zdf (l:=R) (tag:=p.tag) h
   generalize partR R p.tag=q at*
   by_cases q2:q.2=true
   rotate_left
   ·simp only[q2,Bool.false_and]at i2
    simp[q2]
    simpa using i2
   obtain⟨qm,qt⟩:=hq q2
   have hqm:=hpb q.1 qm
   simp only[q2,Bool.true_and]at i2
   simp[q2,hi,hx]
   refine zva hp lo L R i q.1 p.t (zb9 lo n) hpm.1 hqm.1 (by have:=zlz hqm.1;omega) (fun x hx y hy=>zil lo n x y (zcU hpm.1 hx) (zcU hqm.1 hy) (by have:=hpm.2.2.1 x hx;have:=hqm.2.2.1 y hy;omega)) (ms:=[0,1]) (by simp) (fun hf T M n' t6=>?_) (fun hf T t12 t10 t9 t8 t7 t2=>?_)
   ·rw[hf]at i2
    simp only[Bool.false_and]at i2
    simp[t6,i2]
   ·rw [hf]at i2
    simp only[Bool.true_and]at i2
    by_cases g5:q.1.tag=5
    ·have hk1:=zhy hqm.1 (tag5 (by rw[<-hqm.2.1];exact g5))
     have hk2:=zhy hpm.1 (tag5 (by rw[<-hpm.2.1,<-qt];exact g5))
     have m0:=zdg hk1
     have m1:=zcM hk1
     have n0:=zdg hk2
     have n1:=zcM hk2
     have e1:PCall Pg 77 [.agg (kid0 q.1.t).enc,.agg (kid0 p.t).enc,.one (.bool lo)] (.one (.bool (zb9 lo n (kid0 q.1.t) (kid0 p.t)))):=zil lo n (kid0 q.1.t) (kid0 p.t) (zcU hqm.1 m0.1) (zcU hpm.1 n0.1) (by have:=hpm.2.2.1 _ n0.1;have:=hqm.2.2.1 _ m0.1;omega)
     have e2:PCall Pg 77 [.agg (kid1 p.t).enc,.agg (kid1 q.1.t).enc,.one (.bool lo)] (.one (.bool (zb9 lo n (kid1 p.t) (kid1 q.1.t)))):=zil lo n (kid1 p.t) (kid1 q.1.t) (zcU hpm.1 n1.1) (zcU hqm.1 m1.1) (by have:=hpm.2.2.1 _ n1.1;have:=hqm.2.2.1 _ m1.1;omega)
     simp only[g5,decide_true,Bool.not_true,Bool.false_or]at i2
     generalize zb9 lo n (kid0 q.1.t) (kid0 p.t)=z1 at*
     generalize zb9 lo n (kid1 p.t) (kid1 q.1.t)=z2 at*
     simp[t10,t12,t2,g5,m0.2,n0.2]
     refine zac.mk e1 ?_
     cases z1 with
     |false=>
      simp only[Bool.false_and]at i2
      simp
      exact⟨by decide,i2.symm⟩
     | true=>
      simp only[Bool.true_and]at i2
      simp[t10,t12,t2,m1.2,n1.2,t9]
      refine zac.mk e2 ?_
      cases z2 with
      |false=>
       simp only[Bool.false_and]at i2
       simp
       exact⟨by decide,i2.symm⟩
      |true=>
       simp only[Bool.true_and]at i2
       simp[t9]
       refine⟨by decide,?_⟩
       refine Abs.Next.mk (i+1) [] ⟨by omega,i2⟩ (by omega) ?_
       simp[t9,t8,t7,t2]
       exact wrap_i64 (by omega) (by omega)
    ·simp only[g5,decide_false,Bool.not_false,Bool.true_or,Bool.true_and]at i2
     simp[t10,t12,t2,g5,t9]
     refine⟨by decide,?_⟩
     refine Abs.Next.mk (i+1) [] ⟨by omega,i2⟩ (by omega) ?_
     simp[t9,t8,t7,t2]
     exact wrap_i64 (by omega) (by omega)
  ·have hi:i=L.length:=by simp at h;omega
   subst hi
   rw[List.drop_length,List.all_nil]at i2
   simp[i2]
theorem zko(lo:Bool)(a b:Typ)(wa:wfT a)(wb:wfT b):zms lo (belR lo) a b:=zil lo (dpt a+dpt b) a b wa wb (Nat.le_refl _)
theorem zjv(a b:Typ):PCall Pg 89 [.agg a.enc,.agg b.enc] (.one (.bool (SubR a b))):=by
 refine zuS (by simp) fun o c hN hp=>?_
 unfold mc_g06_Sub SubR
 have H:isNR a=true->isNR b=true->zms false (belR false) a b:=fun h k=>zko false a b (zcY h) (zcY k)
 simp
 refine zac.mk (zbP a) ?_
 simp
 refine zac.mk (zbP b) ?_
 generalize isNR a=x at*
 generalize isNR b=y at*
 cases x<;>cases y<;>simp
 refine zac.mk (H rfl rfl) ?_
 simp
theorem zsu(a b:Typ):PCall Pg 53 [.agg a.enc,.agg b.enc] (.one (.bool (zfQ a b))):=by
 refine ztk (by simp) fun o c hN hp=>?_
 unfold mc_g06_Fits zfQ
 have H:isNR a=true->isNR b=true->zms true (belR true) a b:=fun h k=>zko true a b (zcY h) (zcY k)
 simp
 refine zac.mk (zbP a) ?_
 simp
 refine zac.mk (zbP b) ?_
 generalize isNR a=x at*
 generalize isNR b=y at*
 cases x<;>cases y<;>simp
 refine zac.mk (H rfl rfl) ?_
 simp
end Go.Gr
namespace Go.Gr
open Go.Abs Go.Proofs
abbrev joiT(a b:Typ)(i:Nat):List (Nat × AV):=[(9,.c (.d (.int .i64 i))),(8,.c (.ptr 2 0)),(7,.c (.ptr 1 0)),(4,.c (.ptr 0 0)),(3,.c (.d (.rp b.enc 0))),(2,.c (.d (.rp a.enc 0)))]
abbrev joiB(ks:List Typ):List Blk:=[bx4,bx4,.box [.d (.int .i64 7),.d (.str (bs [])),.d (.sl true 1 []),.msl 4 3 0 ks.length],arrT ks]
set_option maxRecDepth 20000 in
set_option maxHeartbeats 2000000 in
theorem zyI(a b:Typ):PCall Pg 123 [.agg a.enc,.agg b.enc] (.agg (zeu a b).enc):=by
 refine ztl (by simp) fun o c hN hp=>?_
 obtain⟨R,hR⟩:∃R,zeu a b=R:=⟨_,rfl⟩
 rw[hR]
 unfold zeu at hR
 unfold zkX
 simp
 refine zac.mk (zjv a b) ?_
 by_cases s1:SubR a b=true
 ·rw[if_pos s1]at hR
  subst hR
  simp[s1]
 rw[if_neg s1]at hR
 simp[s1]
 refine zac.mk (zjv b a) ?_
 by_cases s2:SubR b a=true
 ·rw[if_pos s2]at hR
  subst hR
  simp[s2]
 rw[if_neg s2]at hR
 simp[s2]
 refine zac.mk (zbP a) ?_
 simp
 refine zac.mk (zbP b) ?_
 by_cases na:isNR a=true
 rotate_left
 ·rw[if_pos (.inl (by simpa using na))]at hR
  subst hR
  simp[na,zaf]
 by_cases nb:isNR b=true
 rotate_left
 ·rw[if_pos (.inr (.inl (by simpa using nb)))]at hR
  subst hR
  simp[na,nb,zaf]
 by_cases a0:a.kind=0
 ·rw[if_pos (.inr (.inr (.inl a0)))]at hR
  subst hR
  simp[na,nb,a0,zaf]
 by_cases b0:b.kind=0
 ·rw[if_pos (.inr (.inr (.inr b0)))]at hR
  subst hR
  simp[na,nb,a0,b0,zaf]
 rw[if_neg (by simp[na,nb,a0,b0])]at hR
 have wa:=zcY na
 have wb:=zcY nb
 simp[na,nb,a0,b0]
 refine owK.mk [.c 2 3] ?_
 simp
 obtain⟨F0,hF⟩:∃F0,ze5 a b [0,1,2,3,4,5] []=F0:=⟨_,rfl⟩
 rw[hF]at hR
 refine W.loop zab hp (fun x:Nat × List Typ=>x.1<=6/\x.2.length<=x.1/\ze5 a b (zgH x.1) x.2=F0) (fun x=>joiT a b x.1) (fun x=>joiB x.2) (fun x=>6-x.1) (0,[]) [0,1,2,3] ⟨by simp,by simp,hF⟩ (by simp) fun⟨t,ks⟩ ⟨i1,i2,i3⟩=>?_
 unfold lp_g06_Join_0
 simp only at i1 i2 i3
 simp
 refine gd.mk (fun h=>?_) (fun h=>?_)
 ·have ht:t<6:=by simp at h;omega
  rw[zpw ht,ze5]at i3
  refine zac.mk (zd7 a (by have:=zbF wa;omega)) ?_
  simp
  refine zac.mk (zeM _ _) ?_
  simp
  refine zac.mk (zd7 b (by have:=zbF wb;omega)) ?_
  simp
  refine zac.mk (zeM _ _) ?_
  have hm:=fun h=>zfd (p:=(partR (zaH a) t).1) wa a0 (zdf h).1
  have hn:=fun h=>zfd (p:=(partR (zaH b) t).1) wb b0 (zdf h).1
  generalize partR (zaH a) t=m at*
  generalize partR (zaH b) t=n at*
  have hw:=wrap_i64 (n:=(t:Int)+1) (by omega) (by omega)
  by_cases m2:m.2=true
  ·by_cases n2:n.2=true
   ·rw[if_pos ⟨m2,n2⟩]at i3
    have e1:PCall Pg 77 [.agg m.1.t.enc,.agg n.1.t.enc,.one (.bool false)] (.one (.bool (belR false m.1.t n.1.t))):=zko false _ _ (hm m2).1 (hn n2).1
    have e2:PCall Pg 77 [.agg n.1.t.enc,.agg m.1.t.enc,.one (.bool false)] (.one (.bool (belR false n.1.t m.1.t))):=zko false _ _ (hn n2).1 (hm m2).1
    simp[m2,n2]
    refine zac.mk e1 ?_
    by_cases z1:belR false m.1.t n.1.t=true
    ·rw[if_pos z1]at i3
     simp[z1]
     refine⟨by omega,?_⟩
     refine Abs.Next.mk (t+1,ks++[n.1.t]) [0,1,2,6] ⟨by simp only;omega,by simp;omega,i3⟩ (by simp only;omega) ?_
     simp[hw]
     exact zbH ks
    rw[if_neg z1]at i3
    simp[z1,m2,n2]
    refine zac.mk e2 ?_
    by_cases z2:belR false n.1.t m.1.t=true
    ·rw[if_pos z2]at i3
     simp[z2]
     refine⟨by omega,?_⟩
     refine Abs.Next.mk (t+1,ks++[m.1.t]) [0,1,2,6] ⟨by simp only;omega,by simp;omega,i3⟩ (by simp only;omega) ?_
     simp[hw]
     exact zbH ks
    rw[if_neg z2]at i3
    rw[<-i3]at hR
    simp only at hR
    subst hR
    simp[z2,m2,n2,zaf]
   ·rw[if_neg (fun z=>n2 z.2),if_pos m2]at i3
    simp[m2,n2]
    refine⟨by omega,?_⟩
    refine Abs.Next.mk (t+1,ks++[m.1.t]) [0,1,2,6] ⟨by simp only;omega,by simp;omega,i3⟩ (by simp only;omega) ?_
    simp[hw]
    exact zbH ks
  ·rw[if_neg (fun z=>m2 z.1),if_neg m2]at i3
   by_cases n2:n.2=true
   ·rw[if_pos n2]at i3
    simp[m2,n2]
    refine⟨by omega,?_⟩
    refine Abs.Next.mk (t+1,ks++[n.1.t]) [0,1,2,6] ⟨by simp only;omega,by simp;omega,i3⟩ (by simp only;omega) ?_
    simp[hw]
    exact zbH ks
   ·rw[if_neg n2]at i3
    simp[m2,n2]
    refine Abs.Next.mk (t+1,ks) [0,1,2,3] ⟨by simp only;omega,by simp only;omega,i3⟩ (by simp only;omega) ?_
    simp[hw]
 ·have ht:t=6:=by simp at h;omega
  subst ht
  rw[show zgH 6=[]from rfl,ze5]at i3
  rw[<-i3]at hR
  simp only at hR
  have hNm:PCall Pg 73 [.agg [.int .i64 7,.str (bs []),.sl true 1 [],.sl false 4 (ks.map Typ.enc)]] (.tup [.agg (zaS (.mk 7 (bs []) [] ks)).1.enc,.one (.int .i64 (zaS (.mk 7 (bs []) [] ks)).2)]):=PCall.erd (zeN (.mk 7 (bs []) [] ks)) (by simp[zfV,DV.erds,DV.erd,D.erdL,D.erd])
  have z:List.take ks.length (List.map Typ.enc ks)=List.map Typ.enc ks:=List.take_of_length_le (by simp)
  simp
  refine fzK.mk [3] ?_
  simp[zak,zbH,z]
  refine zac.mk hNm ?_
  generalize zaS (.mk 7 (bs []) [] ks)=N at*
  by_cases n0:N.2=0
  ·rw[if_pos n0]at hR
   subst hR
   simp[zak,n0]
  ·rw[if_neg n0]at hR
   subst hR
   simp[zak,n0,zaf]
abbrev narT(t:Typ)(tag:Int)(i:Nat):List (Nat × AV):=[(10,.c (.d (.int .i64 i))),(9,.c (.ptr 3 0)),(7,.c (.ptr 2 0)),(5,.c (.ptr 1 0)),(4,.c (.ptr 0 0)),(2,.c (.d (.rp t.enc 0))),(1,.c (.d (.int .i64 tag)))]
abbrev narB(p:Prt)(ks:List Typ):List Blk:=[bx4,bx4,.box (p.enc.map .d),.box [.d (.int .i64 7),.d (.str (bs [])),.d (.sl true 1 []),.msl 4 4 0 ks.length],arrT ks]
set_option maxRecDepth 20000 in
set_option maxHeartbeats 2000000 in
theorem zuL(t:Typ)(tag:Int):PCall Pg 122 [.agg t.enc,.one (.int .i64 tag)] (.tup [.agg (zbI t tag).1.enc,.agg (zbI t tag).2.enc]):=by
 refine zpH (by simp) fun o c hN hp=>?_
 obtain⟨R,hR⟩:∃R,zbI t tag=R:=⟨_,rfl⟩
 rw[hR]
 unfold zbI at hR
 unfold zi1
 simp
 refine zac.mk (zbP t) ?_
 by_cases na:isNR t=true
 rotate_left
 ·rw[if_pos (.inl (by simpa using na))]at hR
  subst hR
  simp[na]
  try decide
 by_cases t1:tag<0
 ·rw[if_pos (.inr (.inl t1))]at hR
  subst hR
  simp[na,t1]
  try decide
 by_cases t2:6<=tag
 ·rw[if_pos (.inr (.inr t2))]at hR
  subst hR
  simp[na,t1,t2]
  try decide
 rw[if_neg (by simp[na];omega)]at hR
 have wt:=zcY na
 by_cases k0:t.kind=0
 ·rw[if_pos k0]at hR
  by_cases t5:tag=5
  ·rw[if_pos t5]at hR
   subst hR
   simp[na,t1,t2,k0,t5]
   try decide
  ·rw[if_neg t5]at hR
   subst hR
   have hw:=wrap_i64 (n:=1+tag) (by omega) (by omega)
   simp[na,t1,t2,k0,t5,hw]
   exact⟨by decide,by rw[zap]⟩
 rw[if_neg k0]at hR
 simp[na,t1,t2,k0]
 refine zac.mk (zd7 t (by have:=zbF wt;omega)) ?_
 simp
 refine zac.mk (zeM _ _) ?_
 generalize partR (zaH t) tag=p at*
 by_cases p2:p.2=true
 rotate_left
 ·rw[if_pos (by simpa using p2)]at hR
  subst hR
  simp[p2]
  try decide
 rw[if_neg (by simp[p2])]at hR
 by_cases k7:t.kind=7
 rotate_left
 ·rw[if_pos k7]at hR
  subst hR
  simp[p2,k7]
  try decide
 rw[if_neg (fun z=>z k7)]at hR
 simp[p2,k7]
 refine owK.mk [.c 3 3] ?_
 simp
 have hkl:=zbF wt
 obtain⟨F0,hF⟩:∃F0,t.kids.filter (fun k=>decide (zax k≠tag))=F0:=⟨_,rfl⟩
 rw[hF]at hR
 refine W.loop zab hp (fun x:Nat × List Typ=>x.1<=t.kids.length/\x.2.length<=x.1/\x.2++(t.kids.drop x.1).filter (fun k=>decide (zax k≠tag))=F0) (fun x=>narT t tag x.1) (fun x=>narB p.1 x.2) (fun x=>t.kids.length-x.1) (0,[]) [0,1,2,3,4] ⟨by simp,by simp,by simpa using hF⟩ (by simp) fun⟨j,ks⟩ ⟨i1,i2,i3⟩=>?_
 unfold lp_g06_Narrow_0
 simp only at i1 i2 i3
 simp
 refine gd.mk (fun h=>?_) (fun h=>?_)
 ·have hj:j<t.kids.length:=by simpa using h
  rw[List.drop_eq_getElem_cons hj,List.filter_cons]at i3
  obtain⟨x,hx⟩:∃x,t.kids[j]=x:=⟨_,rfl⟩
  rw[hx]at i3
  have hw:=wrap_i64 (n:=(j:Int)+1) (by omega) (by omega)
  simp[hj,hx]
  refine zac.mk (zmQ x) ?_
  by_cases q:zax x=tag
  ·rw[if_neg (by simp[q])]at i3
   simp[q]
   refine Abs.Next.mk (j+1,ks) [0,1,2,3,4] ⟨by simp only;omega,by simp only;omega,i3⟩ (by simp only;omega) ?_
   simp[hw]
  ·rw[if_pos (by simp[q])]at i3
   simp[q,hj,hx]
   refine⟨by omega,by decide,?_⟩
   refine Abs.Next.mk (j+1,ks++[x]) [0,1,2,3,5] ⟨by simp only;omega,by simp;omega,by simpa using i3⟩ (by simp only;omega) ?_
   simp[hw]
   exact zbH ks
 ·have hj:j=t.kids.length:=by simp at h;omega
  subst hj
  rw[List.drop_length,List.filter_nil,List.append_nil]at i3
  subst i3
  have z:List.take ks.length (List.map Typ.enc ks)=List.map Typ.enc ks:=List.take_of_length_le (by simp)
  match ks,i2,hR,z with
  |[x],i2,hR,z=>
   simp only at hR
   subst hR
   simp
   decide
  |[],i2,hR,z=>
   simp only at hR
   subst hR
   simp[zfV]
   decide
  |x::y::l2,i2,hR,z=>
   simp only at hR
   subst hR
   have h1:¬((l2.length:Int)+1+1=1):=by omega
   simp[h1,zfV,zaG]
   decide
end Go.Gr
