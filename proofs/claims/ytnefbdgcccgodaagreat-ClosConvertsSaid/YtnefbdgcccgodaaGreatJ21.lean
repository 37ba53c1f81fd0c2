/- Texts of ours, joined and written short by a program of ours. -/
import Derived.Test.YtnefbdgcccgodaaGreatJ20
import Derived.Test.YtnefbdgcccgodaaGreatJ14
import Derived.Test.YtnefbdgcccgodaaGreatJ09
import Derived.Test.YtnefbdgcccgodaaGreatJ15
import Derived.Test.YtnefbdgcccgodaaGreatJ18
set_option linter.unusedVariables false
set_option linter.unusedSimpArgs false
namespace Go.Gr
open Go.Abs Go.Proofs
theorem znw(a b:ByteArray):ltS a b=true↔ltB a b:=by unfold ltS;rw[zeq];exact decide_eq_true_iff
theorem zqm{s:ByteArray}:∀{ns:List ByteArray},(∀n,n∈ns->ltB n s)->posR s ns=ns.length
 |[],_=>rfl
 |n::l,h=>by rw[posR,if_pos ((znw _ _).2 (h n (by simp))),zqm fun x hx=>h x (by simp[hx])];rfl
theorem zqn{s:ByteArray}:∀{ns:List ByteArray},ns.Pairwise ltB->ns[posR s ns]?≠some s->(∀x,x∈ns.take (posR s ns)->ltB x s)/\∀x,x∈ns.drop (posR s ns)->ltB s x
 |[],_,_=>by simp[posR]
 | n::l,hp,h=>by
  have hp':=List.pairwise_cons.1 hp
  rw[posR]at h⊢
  by_cases q:ltS n s=true
  ·rw[if_pos q]at h⊢
   have i:=zqn hp'.2 (by simpa using h)
   refine⟨fun x hx=>?_,fun x hx=>i.2 x (by simpa using hx)⟩
   rw[List.take_succ_cons]at hx
   rcases List.mem_cons.1 hx with rfl|hx
   ·exact(znw _ _).1 q
   ·exact i.1 x hx
  ·rw[if_neg q]at h⊢
   have hne:n≠s:=fun e=>h (by simp[e])
   have hs:ltB s n:=(zgW hne).resolve_left fun e=>q ((znw _ _).2 e)
   refine⟨fun x hx=>(by simp at hx),fun x hx=>?_⟩
   rw[List.drop_zero]at hx
   rcases List.mem_cons.1 hx with rfl|hx
   ·exact hs
   ·exact zck hs (hp'.1 x hx)
theorem zvi{s:ByteArray}{ns:List ByteArray}(hp:ns.Pairwise ltB)(h:ns[posR s ns]?≠some s):(ns.take (posR s ns)++s::ns.drop (posR s ns)).Pairwise ltB:=by
 have i:=zqn hp h
 have hp':=hp
 rw[<-List.take_append_drop (posR s ns) ns]at hp'
 have hp':=List.pairwise_append.1 hp'
 refine List.pairwise_append.2 ⟨hp'.1,List.pairwise_cons.2 ⟨i.2,hp'.2.1⟩,fun x hx y hy=>?_⟩
 rcases List.mem_cons.1 hy with rfl|hy
 ·exact i.1 x hx
 ·exact zck (i.1 x hx) (i.2 y hy)
theorem zmC:∀(ss:List ByteArray) (ts:List Typ) (ns:List ByteArray) (ks:List Typ),ns.Pairwise ltB->(recR ss ts ns ks).1.1.Pairwise ltB
 |[],ts,ns,ks,h=>by rw[recR];exact h;all_goals (intros;contradiction)
 |s::ss,[],ns,ks,h=>by rw[recR];exact h;all_goals (intros;contradiction)
 | s::ss,t::ts,ns,ks,h=>by
  rw[recR]
  split
  ·exact h
  ·rename_i q
   exact zmC ss ts _ _ (zvi h fun e=>q (.inr e))
theorem zfe:∀a b:List Typ,cntTs (a++b)=cntTs a+cntTs b
 |[],b=>by simp[cntTs]
 |t::a,b=>by rw[List.cons_append,cntTs,cntTs,zfe a b];omega
theorem zqo:∀(ss:List ByteArray) (ts:List Typ) (ns:List ByteArray) (ks:List Typ),cntTs (recR ss ts ns ks).1.2<=cntTs ks+cntTs ts
 |[],ts,ns,ks=>by rw[recR];exact Nat.le_add_right _ _;all_goals (intros;contradiction)
 |s::ss,[],ns,ks=>by rw[recR];exact Nat.le_add_right _ _;all_goals (intros;contradiction)
 | s::ss,t::ts,ns,ks=>by
  rw[recR]
  split
  ·exact Nat.le_add_right _ _
  ·have i:=zqo ss ts (ns.take (posR s ns)++s::ns.drop (posR s ns)) (ks.take (posR s ns)++t::ks.drop (posR s ns))
   have e:=zfe (ks.take (posR s ns)) (ks.drop (posR s ns))
   rw[List.take_append_drop]at e
   rw[zfe,cntTs]at i
   rw[cntTs]
   omega
theorem zov:∀(ss:List ByteArray) (ts:List Typ) (ns:List ByteArray) (ks:List Typ),ss.length=ts.length->ns.length=ks.length->(ns++ss).Pairwise ltB->(∀x,x∈ss->za1 x=true)->recR ss ts ns ks=((ns++ss,ks++ts),true)
 |[],ts,ns,ks,h0,_,_,_=>by
  cases ts with
  |nil=>rw[recR,List.append_nil,List.append_nil];all_goals (intros;contradiction)
  |cons _ _=>simp at h0
 |s::ss,[],ns,ks,h0,_,_,_=>by simp at h0
 | s::ss,t::ts,ns,ks,h0,h1,h2,h3=>by
  have hp:=zqm (s:=s) (ns:=ns) fun n hn=>(List.pairwise_append.1 h2).2.2 n hn s (by simp)
  rw[recR,hp,if_neg]
  ·rw[List.take_length,List.drop_length,h1,List.take_length,List.drop_length,zov ss ts _ _ (by simpa using h0) (by simp[h1]) (by simpa using h2) fun x hx=>h3 x (by simp[hx])]
   simp
  ·rw[h3 s (by simp)]
   simp
theorem znx{l:List Typ}{B:Nat}(h:∀x,x∈l->dpt x<=B):dpts l<=B:=by
 induction l with
 |nil=>simp[dpts]
 |cons t l ih=>
  rw[dpts]
  have:=h t (by simp)
  have:=ih fun x hx=>h x (by simp[hx])
  omega
theorem zow(tag:Int)(l:List Typ)(ks:List Typ):(tagR tag l false ks).1.2=ks\/∃x,x∈l/\zax x=tag/\(tagR tag l false ks).1.2=ks++[x]:=by
 have hT:∀(l:List Typ) (ks:List Typ),(tagR tag l true ks).1.2=ks:=fun l=>by
  induction l with
  |nil=>intro ks;rfl
  | cons x l ih=>
   intro ks
   rw[tagR]
   split
   ·rfl
   split
   ·exact ih ks
   ·simp only[if_true]
    split
    ·exact ih ks
    ·rfl
 induction l with
 |nil=>exact .inl rfl
 | cons x l ih=>
  rw[tagR]
  split
  ·exact .inl rfl
  split
  ·rcases ih with h|⟨y,h1,h2,h3⟩
   ·exact .inl h
   ·exact .inr ⟨y,by simp[h1],h2,h3⟩
  ·rename_i q
   refine .inr ⟨x,by simp,Decidable.not_not.1 q,?_⟩
   simp only[Bool.false_eq_true,if_false]
   split
   ·exact hT l _
   ·rfl
theorem zqp(p q:Typ->Bool)(h:∀x,¬(p x=true/\q x=true)):∀l:List Typ,cntTs (l.filter p)+cntTs (l.filter q)<=cntTs (l.filter fun x=>p x||q x)
 |[]=>by simp[cntTs]
 |x::l=>by
  have i:=zqp p q h l
  have hx:=h x
  simp only[List.filter_cons]
  cases hp:p x<;>cases hq:q x
  ·simpa using i
  ·simp[cntTs];omega
  ·simp[cntTs];omega
  ·exact absurd ⟨hp,hq⟩ hx
theorem zny(p:Typ->Bool):∀l:List Typ,cntTs (l.filter p)<=cntTs l
 |[]=>by simp[cntTs]
 |x::l=>by
  have i:=zny p l
  simp only[List.filter_cons]
  split
  ·rw[cntTs,cntTs];omega
  ·rw[cntTs];omega
theorem zox(all:List Typ):∀(l:List Int) (ks:List Typ),l.Nodup->cntTs (zbs all l ks).1<=cntTs ks+cntTs (all.filter fun x=>decide (zax x∈l))
 |[],ks,_=>by rw[zbs];exact Nat.le_add_right _ _
 | tag::l,ks,hn=>by
  have hn':=List.nodup_cons.1 hn
  have hf:=zqp (fun x=>decide (zax x=tag)) (fun x=>decide (zax x∈l)) (fun x ⟨a,b⟩=>hn'.1 (by simp only[decide_eq_true_eq]at a b;rw[<-a];exact b)) all
  have he:(fun x=>decide (zax x=tag)||decide (zax x∈l))=fun x:Typ=>decide (zax x∈tag::l):=by
   funext x
   rw[<-Bool.decide_or]
   simp only[List.mem_cons]
  rw[he]at hf
  have h1:cntTs (tagR tag all false ks).1.2<=cntTs ks+cntTs (all.filter fun x=>decide (zax x=tag)):=by
   rcases zow tag all ks with h|⟨x,h1,h2,h3⟩
   ·rw[h];omega
   ·rw[h3,zfe]
    have:=zjp (l:=all.filter fun x=>decide (zax x=tag)) (x:=x) (List.mem_filter.2 ⟨h1,by simpa using h2⟩)
    simp only[cntTs];omega
  rw[zbs]
  split
  ·have i:=zox all l (tagR tag all false ks).1.2 hn'.2
   omega
  ·simp only;omega
theorem zk6(all:List Typ):∀(l:List Int) (ks:List Typ),l.Pairwise (· < ·)->(ks.map zax).Pairwise (· < ·)->(∀x,x∈ks->∀t,t∈l->zax x<t)->((zbs all l ks).1.map zax).Pairwise (· < ·)
 |[],ks,_,h,_=>by rw[zbs];exact h
 | tag::l,ks,hl,h,hk=>by
  have hl':=List.pairwise_cons.1 hl
  have h1:((tagR tag all false ks).1.2.map zax).Pairwise (· < ·)/\∀x,x∈(tagR tag all false ks).1.2->∀t,t∈l->zax x<t:=by
   rcases zow tag all ks with e|⟨x,h1,h2,h3⟩
   ·rw[e];exact⟨h,fun x hx t ht=>hk x hx t (by simp[ht])⟩
   ·rw[h3]
    refine⟨?_,fun y hy t ht=>?_⟩
    ·rw[List.map_append]
     refine List.pairwise_append.2 ⟨h,by simp,fun a ha b hb=>?_⟩
     obtain⟨z,hz,rfl⟩:=List.mem_map.1 ha
     simp only[List.map_cons,List.map_nil,List.mem_singleton]at hb
     rw[hb,h2]
     exact hk z hz tag (by simp)
    ·rcases List.mem_append.1 hy with hy|hy
     ·exact hk y hy t (by simp[ht])
     ·rw[List.mem_singleton.1 hy,h2];exact hl'.1 t ht
  rw[zbs]
  split
  ·exact zk6 all l _ hl'.2 h1.1 h1.2
  ·exact h1.1
theorem zqq:∀l:List Typ,cntTs (l.flatMap mems)<=cntTs l
 |[]=>by simp[cntTs]
 | t::l=>by
  rw[List.flatMap_cons,zfe,cntTs]
  have:=zqq l
  have:cntTs (mems t)<=cntT t:=by
   unfold mems
   split
   ·cases t;rw[cntT];simp only[Typ.kids];omega
   ·simp[cntTs]
  omega
theorem zxe{l:List Typ}{x:Typ}(h:x∈l.flatMap mems):dpt x<=dpts l:=by
 obtain⟨t,ht,hx⟩:=List.mem_flatMap.1 h
 have h1:=zgi ht
 unfold mems at hx
 split at hx
 ·have:=zdo hx;omega
 ·rw[List.mem_singleton.1 hx];exact h1
theorem zyY(k:Int)(s:List ByteArray)(l:List Typ)(hl:∀x,x∈l->ordT x)(hk:5<=k/\k<=7)(h:(finR k s l).2=true):ordT (finR k s l).1/\cntT (finR k s l).1<=cntTs l+1/\dpt (finR k s l).1<=dpts l+1:=by
 unfold finR at h⊢
 by_cases k5:k=5
 ·rw[if_pos k5]at h⊢
  unfold zcE at h⊢
  by_cases q:s.length≠l.length\/16<s.length
  ·rw[if_pos q]at h;cases h
  rw[if_neg q]at h⊢
  have i:=znr s l [] [] (by omega) rfl (by simp) h
  have hc:=zqo s l [] []
  have hmem:∀x,x∈(recR s l [] []).1.2->x∈l:=fun x hx=>by
   rcases i.2.2.2 x hx with hx|hx
   ·cases hx
   ·exact hx
  refine⟨(zb7 _).2 ⟨zmC _ _ _ _ (by simp),fun e=>absurd e (by simp only[Typ.kind];decide),fun x hx=>hl x (hmem x hx)⟩,?_,?_⟩
  ·rw[cntT];simp only[cntTs]at hc;omega
  ·rw[dpt]
   have:=znx (l:=(recR s l [] []).1.2) (B:=dpts l) fun x hx=>zgi (hmem x hx)
   omega
 rw[if_neg k5]at h⊢
 by_cases k6:k=6
 ·rw[if_pos k6]at h⊢
  exact⟨(zb7 _).2 ⟨by simp[Typ.names],fun e=>absurd e (by simp only[Typ.kind];decide),hl⟩,by rw[cntT];omega,by rw[dpt];omega⟩
 rw[if_neg k6]at h⊢
 unfold zdU at h⊢
 have hm:=zgP (l.flatMap mems) [0,1,2,3,4,5] []
 have hr:=zk6 (l.flatMap mems) [0,1,2,3,4,5] [] (by decide) (by simp) (by simp)
 have hc:=zox (l.flatMap mems) [0,1,2,3,4,5] [] (by decide)
 have hc2:=zny (fun x=>decide (zax x∈([0,1,2,3,4,5]:List Int))) (l.flatMap mems)
 have hc3:=zqq l
 simp only at h⊢
 generalize zbs (l.flatMap mems) [0,1,2,3,4,5] []=r at*
 have hw:∀y,y∈r.1->ordT y/\dpt y<=dpts l:=fun y hy=>by
  rcases hm y hy with q|⟨q1,q2⟩
  ·cases q
  ·refine⟨?_,zxe q1⟩
   obtain⟨t,ht,hx⟩:=List.mem_flatMap.1 q1
   unfold mems at hx
   split at hx
   ·exact((zb7 t).1 (hl t ht)).2.2 y hx
   ·rw[List.mem_singleton.1 hx];exact hl t ht
 have hcnt:cntTs r.1<=cntTs l:=by simp only[cntTs]at hc;omega
 by_cases q:r.2=true
 ·rw [if_pos q]at h⊢
  split
  ·rename_i x e
   have:=hw x (by rw[e];simp)
   refine⟨this.1,?_,by simp only;omega⟩
   rw[e]at hcnt
   simp only[cntTs]at hcnt⊢;omega
  ·rename_i L e
   have hlen:2<=r.1.length:=by
    split at h
    ·rename_i x e';exact absurd e' (e x)
    ·simp only[decide_eq_true_eq]at h
     match hr1:r.1,h,e with
     |[],h,_=>simp at h
     |[x],_,e=>exact absurd rfl (e x)
     |_::_::_,_,_=>simp
   refine⟨(zb7 _).2 ⟨by simp[Typ.names],fun _=>⟨hr,hlen⟩,fun x hx=>(hw x hx).1⟩,by simp only;rw[cntT];omega,?_⟩
   simp only
   rw[dpt]
   have:=znx (l:=r.1) (B:=dpts l) fun x hx=>(hw x hx).2
   omega
 ·rw[if_neg q]at h;cases h
mutual
theorem zlC:∀t:Typ,(zaP t).2=true->ordT (zaP t).1/\cntT (zaP t).1<=cntT t/\dpt (zaP t).1<=dpt t
 | .mk k n s l,h=>by
  rw[zaP]at h⊢
  by_cases q:5<=k/\k<=7
  ·rw[if_pos q]at h⊢
   by_cases q2:(zaD l).2=true
   ·rw[if_pos q2]at h⊢
    have i:=zoy l q2
    have f:=zyY k s _ i.1 q h
    rw[cntT,dpt]
    exact⟨f.1,by omega,by omega⟩
   ·rw[if_neg q2]at h;cases h
  ·rw[if_neg q]at h⊢
   by_cases q2:0<=k/\k<=4
   ·rw[if_pos q2]
    exact⟨(NF.base k q2.1 q2.2).2,by rw[cntT];simp[bT,cntT,cntTs],by rw[dpt];simp[bT,dpt,dpts]⟩
   ·rw[if_neg q2]at h;cases h
theorem zoy:∀l:List Typ,(zaD l).2=true->(∀x,x∈(zaD l).1->ordT x)/\cntTs (zaD l).1<=cntTs l/\dpts (zaD l).1<=dpts l
 |[],_=>by rw[zaD];exact⟨fun x hx=>(by cases hx),Nat.le_refl _,Nat.le_refl _⟩
 | t::l,h=>by
  rw[zaD]at h⊢
  by_cases q:(zaP t).2=true
  ·rw[if_pos q]at h⊢
   have a:=zlC t q
   have b:=zoy l h
   refine⟨fun x hx=>?_,by rw[cntTs,cntTs];omega,by rw[dpts,dpts];omega⟩
   rcases List.mem_cons.1 hx with rfl|hx
   ·exact a.1
   ·exact b.1 x hx
  ·rw[if_neg q]at h;cases h
end
theorem zeP{t:Typ}(h:isNR t=true):NF t:=by
 have e:=zgg.1 h
 have f:=zep e.1
 refine⟨zcY h,?_⟩
 rw[<-e.2,f.2.2.2]
 exact(zlC t f.1).1
end Go.Gr
namespace Go.Gr
open Go.Abs Go.Proofs
mutual
theorem zsB:∀(t:Typ) (m:Int),za0 t m<=cntT t
 |.mk k n s l,m=>by
  rw[za0,cntT]
  have:=zqv l m 1
  omega
theorem zqv:∀(l:List Typ) (m n:Int),za8 l m n<=n+cntTs l
 |[],m,n=>by rw[za8,cntTs];omega
 | t::l,m,n=>by
  rw[za8,cntTs]
  split
  ·have a:=zsB t (m-n)
   have b:=zqv l m (n+za0 t (m-n))
   omega
  ·omega
end
theorem zoA(f:Typ->Int)(B:Int):∀(l:List Typ) (h:Int),0<=h->h<=B->(∀x,x∈l->f x=min B (dpt x))->l.foldl (fun h k=>if h<f k then f k else h) h=max h (min B (dpts l))
 |[],h,h0,hB,_=>by simp only[List.foldl_nil,dpts];omega
 |t::l,h,h0,hB,hf=>by
  have ht:=hf t (by simp)
  rw[List.foldl_cons,zoA f B l _ (by split<;>omega) (by split<;>omega) fun x hx=>hf x (by simp[hx]),ht,dpts]
  split<;>omega
theorem zsC:∀(n:Nat) (t:Typ),za4 (n+1) t=min ((n:Int)+1) (dpt t)
 |0,t=>by rw[za4];have:=zfY t;omega
 |n+1,t=>by
  rw[za4,zoA _ ((n:Int)+1) t.kids 0 (by omega) (by omega) fun x _=>zsC n x]
  have:dpt t=dpts t.kids+1:=by cases t;rw[dpt];try rfl
  rw[this]
  omega
theorem zqw(t:Typ):za4 17 t=min (17:Int) (dpt t):=by rw[zsC 16 t];try rfl
theorem zvp{l:List Typ}(h:∀x,x∈l->x.kind≠7):l.flatMap mems=l:=by
 induction l with
 |nil=>rfl
 |cons t l ih=>rw[List.flatMap_cons,ih fun x hx=>h x (by simp[hx])];unfold mems;rw[if_neg (h t (by simp))];try rfl
theorem zoB(tag:Int):∀(l:List Typ) (had:Bool) (ks:List Typ),(∀x,x∈l->x.kind≠0/\zax x≠tag)->tagR tag l had ks=((had,ks),true)
 |[],had,ks,_=>rfl
 |x::l,had,ks,h=>by
  rw[tagR,if_neg (h x (by simp)).1,if_pos (h x (by simp)).2]
  exact zoB tag l had ks fun y hy=>h y (by simp[hy])
theorem zoC(tag:Int):∀(l:List Typ) (ks:List Typ),(l.map zax).Pairwise (· < ·)->(∀x,x∈l->x.kind≠0)->(tagR tag l false ks).1.2=ks++l.filter (fun x=>decide (zax x=tag))/\(tagR tag l false ks).2=true
 |[],ks,_,_=>⟨by simp[tagR],rfl⟩
 | x::l,ks,hp,h0=>by
  rw[List.map_cons]at hp
  have hp':=List.pairwise_cons.1 hp
  rw[tagR,if_neg (h0 x (by simp))]
  by_cases q:zax x=tag
  ·have hno:∀y,y∈l->y.kind≠0/\zax y≠tag:=fun y hy=>⟨h0 y (by simp[hy]),fun e=>by have:=hp'.1 (zax y) (List.mem_map.2 ⟨y,hy,rfl⟩);omega⟩
   have hf:l.filter (fun x=>decide (zax x=tag))=[]:=List.filter_eq_nil_iff.2 fun y hy=>by simpa using (hno y hy).2
   rw[if_neg (by simpa using q)]
   have hs:za5 x ((ks++[x]).getLastD noT)=true:=by
    rw[List.getLastD_concat];exact zh6 x
   simp only[Bool.false_eq_true,if_false]
   rw[if_pos hs,zoB tag l true _ hno]
   simp[q,hf]
  ·rw[if_pos q]
   have i:=zoC tag l ks hp'.2 fun y hy=>h0 y (by simp[hy])
   rw[i.1]
   exact⟨by simp[q],i.2⟩
theorem zmG(all:List Typ)(hp:(all.map zax).Pairwise (· < ·))(h0:∀x,x∈all->x.kind≠0):∀(l:List Int) (ks:List Typ),zbs all l ks=(ks++l.flatMap fun t=>all.filter fun x=>decide (zax x=t),true)
 |[],ks=>by rw[zbs];simp
 |t::l,ks=>by
  have i:=zoC t all ks hp h0
  rw[zbs,if_pos i.2,zmG all hp h0 l,i.1]
  simp
theorem zfL:∀(l:List Int) (all:List Typ),l.Pairwise (· < ·)->(all.map zax).Pairwise (· < ·)->(∀x,x∈all->zax x∈l)->(l.flatMap fun t=>all.filter fun x=>decide (zax x=t))=all
 |[],all,_,_,h=>by
  cases all with
  |nil=>rfl
  |cons x l=>exact absurd (h x (by simp)) (by simp)
 | t ::l,all,hl,hp,h=>by
  have hl':=List.pairwise_cons.1 hl
  have skip:∀x:Typ,zax x=t->∀r:List Typ,(l.flatMap fun t=>(x::r).filter fun y=>decide (zax y=t))=l.flatMap fun t=>r.filter fun y=>decide (zax y=t):=fun x hx r=>by
   rw[List.flatMap_def,List.flatMap_def]
   congr 1
   refine List.map_congr_left fun u hu=>?_
   have:=hl'.1 u hu
   rw[List.filter_cons,if_neg (by simp only[decide_eq_true_eq];omega)]
  rw[List.flatMap_cons]
  cases all with
  |nil=>rw[zfL l [] hl'.2 (by simp) (by simp)];rfl
  | cons x r=>
   rw[List.map_cons]at hp
   have hp':=List.pairwise_cons.1 hp
   have gt:∀y,y∈r->zax x<zax y:=fun y hy=>hp'.1 _ (List.mem_map.2 ⟨y,hy,rfl⟩)
   by_cases q:zax x=t
   ·have hf:r.filter (fun x=>decide (zax x=t))=[]:=List.filter_eq_nil_iff.2 fun y hy=>by have:=gt y hy;simp only[decide_eq_true_eq];omega
    rw[List.filter_cons,if_pos (by simpa using q),hf,skip x q r,zfL l r hl'.2 hp'.2 fun y hy=>?_]
    ·rfl
    ·have:=gt y hy
     rcases List.mem_cons.1 (h y (by simp[hy]))with e|e
     ·omega
     ·exact e
   ·have hx:zax x∈l:=(List.mem_cons.1 (h x (by simp))).resolve_left q
    have hxt:=hl'.1 _ hx
    have hf:(x::r).filter (fun x=>decide (zax x=t))=[]:=List.filter_eq_nil_iff.2 fun y hy=>by
     simp only[decide_eq_true_eq]
     rcases List.mem_cons.1 hy with rfl|hy
     ·exact q
     ·have:=gt y hy;omega
    rw[hf,zfL l (x::r) hl'.2 (by rw[List.map_cons];exact hp) fun y hy=>?_]
    ·rfl
    ·refine(List.mem_cons.1 (h y hy)).resolve_left fun e=>?_
     rcases List.mem_cons.1 hy with rfl|hy
     ·exact q e
     ·have:=gt y hy;omega
theorem zxm{t:Typ}(h:NF t)(hk:5<=t.kind/\t.kind<=7):finR t.kind t.names t.kids=(t,true):=by
 have ho:=(zb7 t).1 h.2
 have hw:=(zaW t).1 h.1
 have eta:∀t:Typ,t=.mk t.kind t.name t.names t.kids:=fun t=>by cases t;rfl
 have e:=eta t
 rw[hw.1]at e
 unfold finR
 rcases hw.2.2 with⟨a,b,_⟩|⟨a,b,c,d⟩|⟨a,b,c⟩|⟨a,b,c,d⟩
 ·omega
 ·rw[if_pos a]
  unfold zcE
  rw[if_neg (by omega),zov t.names t.kids [] [] b rfl (by simpa using ho.1) d]
  simp only[List.nil_append]
  rw[<-a,<-e]
 ·rw[if_neg (by omega),if_pos a,c]
  rw[a,b]at e
  rw[<-e];try rfl
 ·rw[if_neg (by omega),if_neg (by omega)]
  have h2:=ho.2.1 a
  have hm:=zvp (l:=t.kids) fun x hx=>by have:=d x hx;omega
  have h0:∀x,x∈t.kids->x.kind≠0:=fun x hx=>by have:=d x hx;omega
  have ht:∀x,x∈t.kids->zax x∈([0,1,2,3,4,5]:List Int):=fun x hx=>by
   have:=d x hx
   have:=(zqI (h.kid hx).1 (by omega) (by omega)).1
   simp only[List.mem_cons,List.not_mem_nil,or_false]
   omega
  unfold zdU
  rw[hm,zmG t.kids h2.1 h0,List.nil_append,zfL _ _ (by decide) h2.1 ht]
  simp only[if_true]
  rw[a,b]at e
  split
  ·rename_i x q
   rw[q]at h2
   exact absurd h2.2 (by simp)
  ·rw[<-e]
   simp;omega
mutual
theorem zsD:∀t:Typ,NF t->zaP t=(t,true)
 | .mk k n s l,h=>by
  have hl:=zqx l fun x hx=>h.kid hx
  rw[zaP]
  by_cases q:5<=k/\k<=7
  ·rw[if_pos q,hl,if_pos rfl]
   exact zxm h q
  ·rw[if_neg q]
   rcases((zaW _).1 h.1).2.2 with⟨a,b,c,d⟩|⟨a,_⟩|⟨a,_⟩|⟨a,_⟩
   ·have hn:=((zaW _).1 h.1).1
    simp only[Typ.kind,Typ.names,Typ.kids,Typ.name]at a b c d hn
    rw[if_pos ⟨a,b⟩,c,d,hn];try rfl
   all_goals simp only[Typ.kind]at a;omega
theorem zqx:∀l:List Typ,(∀x,x∈l->NF x)->zaD l=(l,true)
 |[],_=>by rw[zaD]
 |t::l,h=>by
  have a:=zsD t (h t (by simp))
  have b:=zqx l fun x hx=>h x (by simp[hx])
  rw[zaD,a,b,if_pos rfl]
end
theorem zeQ{t:Typ}(h:NF t)(hc:cntT t<=200)(hd:dpt t<=16):isNR t=true:=by
 have a:=zsB t 201
 have b:=zqw t
 rw[zgg]
 unfold zaS
 rw[if_neg (by omega),zsD t h,if_pos rfl]
 exact⟨rfl,rfl⟩
theorem zio{t:Typ}(h:isNR t=true):dpt t<=16:=by
 have e:=(zep (zgg.1 h).1).2.2.1
 have b:=zqw t
 omega
theorem zgS{t:Typ}(h:(zaS t).2=0):isNR (zaS t).1=true:=by
 have f:=zep h
 have o:=zlC t f.1
 have b:=zqw t
 have c:=zlt t 201 (by omega)
 rw[f.2.2.2]
 exact zeQ ⟨zns t f.1,o.1⟩ (by omega) (by omega)
theorem ziq{t x:Typ}(h:isNR t=true)(hx:x∈t.kids):isNR x=true:=by
 have a:=zie h
 have b:=zio h
 have c:=zdo hx
 have d:cntT x<cntT t:=by
  cases t
  rw[cntT]
  have:=zjp hx
  simp only[Typ.kids]at this
  omega
 exact zeQ ((zeP h).kid hx) (by omega) (by omega)
theorem zbV(k:Int)(h0:0<=k)(h4:k<=4):isNR (bT k)=true:=zeQ (NF.base k h0 h4) (by simp[bT,cntT,cntTs]) (by simp[bT,dpt,dpts])
theorem zc0:isNR noT=true:=zbV 0 (by omega) (by omega)
theorem zqy:isNR (bT 5)=true:=zeQ NF.bt5 (by simp[bT,cntT,cntTs]) (by simp[bT,dpt,dpts])
theorem zxn:isNR (fnT noT noT)=true:=zeQ (NF.fn NF.no NF.no) (by decide) (by decide)
theorem zxo{s:ByteArray}(h:za1 s=true):isNR (.mk 5 (bs []) [s] [noT])=true:=
 zeQ ⟨(zaW _).2 ⟨rfl,fun x hx=>by rw[List.mem_singleton.1 hx];exact zbh,.inr (.inl ⟨rfl,rfl,by simp[Typ.names],fun x hx=>by rw[List.mem_singleton.1 hx];exact h⟩)⟩,by simp[ordT,zfN];exact NF.no.2⟩ (by simp[cntT,cntTs,noT]) (by simp[dpt,dpts,noT])
theorem ztO{t:Typ}(h:isNR t=true)(k:ByteArray):isNR (zaz t k).1=true:=by
 rcases((zeP h).field k).2 with e|e
 ·exact ziq h e
 ·rw[e];exact zc0
theorem zxp{a b:Typ}(ha:isNR a=true)(hb:isNR b=true):isNR (zeu a b)=true:=by
 unfold zeu
 split
 ·exact hb
 split
 ·exact ha
 split
 ·exact zc0
 split
 ·exact zc0
 ·split
  ·rename_i h;exact zgS h
  ·exact zc0
theorem ztP(p:Typ->Bool)(l:List Typ):cntTs (l.filter p)<=cntTs l:=zny p l
theorem ztQ{t:Typ}(h:isNR t=true)(tag:Int):isNR (zbI t tag).1=true/\isNR (zbI t tag).2=true:=by
 unfold zbI
 split
 ·exact⟨h,h⟩
 rename_i q
 split
 ·split
  ·exact⟨h,h⟩
  ·rename_i q5
   by_cases q4:tag=4
   ·subst q4
    exact⟨zqy,h⟩
   ·exact⟨zbV _ (by omega) (by omega),h⟩
 rename_i h0
 split
 ·exact⟨h,h⟩
 rename_i hp
 split
 ·exact⟨h,h⟩
 rename_i h7
 have h7:t.kind=7:=by omega
 have hm:=(zdf (l:=zaH t) (tag:=tag) (by simpa using hp)).1
 have hk:(partR (zaH t) tag).1.t∈t.kids:=by
  unfold zaH at hm⊢
  rw[if_neg h0,if_neg (by omega)]at hm⊢
  obtain⟨x,hx,e⟩:=List.mem_map.1 hm
  rw[<-e];exact hx
 have n1:=ziq h hk
 have hsub:∀x,x∈t.kids.filter (fun k=>decide (zax k≠tag))->x∈t.kids:=fun x hx=>(List.mem_filter.1 hx).1
 split
 ·rename_i r e
  exact⟨n1,ziq h (hsub r (by rw[e];simp))⟩
 ·rename_i L e
  refine⟨n1,?_⟩
  have nf:=zeP h
  have hw:=(zaW t).1 nf.1
  have ho:=((zb7 t).1 nf.2).2.1 h7
  have hw7:t.kids.length<=6/\∀x,x∈t.kids->1<=x.kind/\x.kind<=6:=by
   rcases hw.2.2 with⟨_,a,_⟩|⟨a,_⟩|⟨a,_⟩|⟨_,_,a,b⟩
   ·omega
   ·omega
   ·omega
   ·exact⟨a,b⟩
  have hlen:2<=(t.kids.filter fun k=>decide (zax k≠tag)).length:=by
   have hpos:0<(t.kids.filter fun k=>decide (zax k≠tag)).length:=by
    match hl:t.kids,ho with
    |[],ho=>exact absurd ho.2 (by simp)
    |[_],ho=>exact absurd ho.2 (by simp)
    |a::b::r,ho=>
     have hab:=(List.pairwise_cons.1 ho.1).1 (zax b) (by simp)
     by_cases qa:zax a=tag
     ·exact List.length_pos_of_mem (a:=b) (List.mem_filter.2 ⟨by simp,by simp only[decide_eq_true_eq];omega⟩)
     ·exact List.length_pos_of_mem (a:=a) (List.mem_filter.2 ⟨by simp,by simpa using qa⟩)
   match hf:t.kids.filter (fun k=>decide (zax k≠tag)),hpos,e with
   |[],hp,_=>simp at hp
   |[x],_,e=>exact absurd rfl (e x)
   |_::_::_,_,_=>simp
  have hc:=ztP (fun k=>decide (zax k≠tag)) t.kids
  have hle:=List.length_filter_le (fun k=>decide (zax k≠tag)) t.kids
  have c1:=zie h
  have c2:=zio h
  have e1:cntT t=cntTs t.kids+1:=by cases t;rw[cntT];try rfl
  have e2:dpt t=dpts t.kids+1:=by cases t;rw[dpt];try rfl
  have hd:=znx (l:=t.kids.filter fun k=>decide (zax k≠tag)) (B:=dpts t.kids) fun x hx=>zgi (hsub x hx)
  refine zeQ ⟨(zaW _).2 ⟨rfl,fun x hx=>(nf.kid (hsub x hx)).1,.inr (.inr (.inr ⟨rfl,rfl,?_,fun x hx=>hw7.2 x (hsub x hx)⟩))⟩,(zb7 _).2 ⟨by simp[Typ.names],fun _=>⟨?_,hlen⟩,fun x hx=>(nf.kid (hsub x hx)).2⟩⟩ (by simp only;rw[cntT];omega) (by simp only;rw[dpt];omega)
  ·show(t.kids.filter _).length<=6
   omega
  ·show((t.kids.filter _).map zax).Pairwise _
   exact ho.1.sublist (List.filter_sublist.map zax)
theorem zrO{t:Typ}{vars:List ByteArray}{wth:List Typ}(h:(zaU t vars wth).2=0):isNR (zaU t vars wth).1=true:=by
 unfold zaU at h⊢
 split
 ·rename_i q;rw[if_pos q]at h;cases h
 rename_i q
 rw[if_neg q]at h
 split
 ·rename_i q;rw[if_pos q]at h;cases h
 rename_i q
 rw[if_neg q]at h
 split
 ·rename_i q;rw[if_pos q]at h;exact zgS h
 ·rename_i q;rw[if_neg q]at h;cases h
end Go.Gr
namespace Go.Gr
open Go.Abs Go.Proofs
mutual
def selN:Nod->Prop
 |.mk k tx n _ _ _ _ ks=>(k=9->za1 tx=true)/\(k=2->n=0\/n=1)/\(k=12->0<=n/\n<6)/\zc5 ks
def zc5:List Nod->Prop
 |[]=>True
 |n::l=>selN n/\zc5 l
end
theorem zjI:∀l:List Nod,zc5 l↔∀x,x∈l->selN x
 |[]=>by simp[zc5]
 |n::l=>by simp[zc5,zjI l]
theorem zqs:∀l:List UInt8,(l.take (runL false l)).all (fun b=>letU b||digU b)=true
 |[]=>by simp[runL]
 | b::l=>by
  rw[runL]
  split
  ·rename_i h
   rw[List.take_succ_cons,List.all_cons,zqs l]
   simpa[Bool.or_comm]using h
  ·simp
theorem zxf{c:UInt8}(h:letU c=true):digU c=false:=by
 unfold letU letV at h
 unfold digU digV
 simp only[decide_eq_true_eq,decide_eq_false_iff_not]at*
 omega
theorem zxg:∀{l:List UInt8},(tokL l).e=0->(tokL l).kind=1->za1 (bA (tokL l).text)=true
 |[],h,_=>absurd h (by decide)
 | c::r,h,k=>by
  unfold tokL at h k⊢
  simp only at h k⊢
  by_cases c1:letU c=true
  ·rw[if_pos c1]at h k⊢
   by_cases c2:32<runL false (c::r)
   ·rw[if_pos c2]at h;exact absurd h (by decide)
   rw[if_neg c2]at h k⊢
   simp only at h k⊢
   have hw:¬zkC (bA ((c::r).take (runL false (c::r))))=true:=fun z=>by rw[if_pos z]at k;exact absurd k (by decide)
   have ha:=zqs (c::r)
   have e:runL false (c::r)=runL false r+1:=by rw[runL,if_pos (by simp[c1])]
   rw[e,List.take_succ_cons]at hw ha⊢
   rw[Bool.not_eq_true]at hw
   have hs:(bA (c::r.take (runL false r))).size<=32:=by
    show(c::r.take (runL false r)).toArray.size<=32
    simp only[List.size_toArray,List.length_cons,List.length_take]
    omega
   unfold za1
   show(decide ((bA (c::r.take (runL false r))).size<=32)&&(!zkC (bA (c::r.take (runL false r)))&&(!digU c&&(c::r.take (runL false r)).all fun b=>letU b||digU b)))=true
   rw[hw,zxf c1,ha]
   simpa using hs
  rw[if_neg c1]at h k⊢
  exfalso
  revert h k
  repeat' split
  all_goals (intro h k;first|exact absurd k (by simp)|exact absurd h (by simp[badR]))
def NmL(L:List Tok):Prop:=∀i,(L.getD i zdZ).kind=1->za1 (L.getD i zdZ).text=true
theorem zsy{L:List Tok}{t:Tok}(h:NmL L)(ht:t.kind=1->za1 t.text=true):NmL (L++[t]):=fun i hk=>by
 rw[List.getD_eq_getElem?_getD,List.getElem?_append]at hk⊢
 split at hk
 ·rename_i q
  rw[if_pos q,<-List.getD_eq_getElem?_getD]
  rw[<-List.getD_eq_getElem?_getD]at hk
  exact h i hk
 ·rename_i q
  rw[if_neg q]
  by_cases z:i-L.length=0
  ·rw[z]at hk⊢
   exact ht hk
  ·rw[List.getElem?_eq_none (by simp;omega)]at hk
   exact absurd hk (by decide)
theorem zsz:∀(n:Nat) (l:List UInt8) (a b:Int) (ts:List Tok),NmL ts->NmL (lexL n l a b ts).1
 |0,l,a,b,ts,h=>by rw[lexL];exact h
 | n+1,l,a,b,ts,h=>by
  rw[lexL]
  simp only
  split
  ·exact zsy h fun k=>absurd (show(0:Int)=1 from k) (by decide)
  have ht:=zxg (l:=l.drop (blkL false l))
  generalize tokL (l.drop (blkL false l))=t at*
  obtain⟨e,he⟩:∃e,(if t.e=0/\ts.length=8192 then 19 else t.e)=e:=⟨_,rfl⟩
  rw[he]
  split
  ·exact fun i k=>absurd k (by simp[zdZ])
  ·rename_i q
   have e0:t.e=0:=by
    apply Classical.byContradiction
    intro z
    rw[if_neg (fun y=>z y.1)]at he
    omega
   exact zsz n _ _ _ _ (zsy h fun k=>ht e0 k)
theorem zyZ(s:ByteArray):NmL (lexP s).1:=by
 unfold lexP
 split
 ·exact fun i k=>absurd k (by simp[zdZ])
 ·exact zsz _ _ _ _ _ fun i k=>absurd k (by simp[zdZ])
section
variable {L:List Tok}
theorem Tm.z{p q:PS}(h:Tm L p q)(e:q.e=0):p.e=0:=Classical.byContradiction fun z=>h.bad z e
theorem zxh(hN:NmL L){p:PS}(h:(zav L p).2.e=0):za1 (zav L p).1=true:=by
 unfold zav at h⊢
 split
 ·rename_i q;exact hN _ q.2
 ·rename_i q;rw[if_neg q]at h;exact absurd h (zj8 (by decide))
theorem zbv{p:PS}{k:Int}{t:ByteArray}{n:Int}{ts:List Typ}{ns:List ByteArray}{ks:List Nod}(h:zc5 ks)(s:k≠9/\k≠2/\k≠12):selN (mkN L p k t n ts ns ks):=by
 unfold mkN;rw[selN];exact⟨fun z=>absurd z s.1,fun z=>absurd z s.2.1,fun z=>absurd z s.2.2,h⟩
theorem s1{a:Nod}(h:selN a):zc5 [a]:=⟨h,trivial⟩
theorem s2{a b:Nod}(h:selN a)(k:selN b):zc5 [a,b]:=⟨h,k,trivial⟩
def Sel(L:List Tok)(f:PS->Nod × PS):Prop:=∀p,p.at'<L.length->(f p).2.e=0->selN (f p).1
theorem zxi(hL:OkL L){ki:PS->Typ × PS}{ex rk:PS->Nod × PS}(hk:Tame L ki)(he:Tame L ex)(ne:Sel L ex)(nr:Sel L rk):Sel L (ze8 L ki ex rk):=fun p hp=>by
 unfold ze8
 split
 ·have h1:=zag hL hp (s:=wLet)
  have h2:=h1.trans (zaI hL h1.lt)
  have h3:=h2.trans (zc1 hL hk _ h2.lt)
  have h4:=(zaI hL h1.lt).trans ((zc1 hL hk _ h2.lt).trans (zal hL h3.lt (s:=bs [61])))
  have h5:=he _ h4.lt
  have h6:=zal hL h5.lt (s:=bs [59])
  have h7:=he _ h6.lt
  intro e
  exact zbv (s2 (ne _ h4.lt (h6.z (h7.z e))) (ne _ h6.lt e)) (by decide)
 split
 ·have h1:=zag hL hp (s:=wIf)
  have h2:=he _ h1.lt
  have h3:=zal hL h2.lt (s:=ziL)
  have h4:=he _ h3.lt
  have h5:=zal hL h4.lt (s:=ziM)
  have h6:=he _ h5.lt
  intro e
  have e4:=h5.z (h6.z e)
  exact zbv ⟨ne _ h1.lt (h3.z (h4.z e4)),ne _ h3.lt e4,ne _ h5.lt e,trivial⟩ (by decide)
 split
 ·have h1:=zag hL hp (s:=wFn)
  have h2:=zeh hL hk _ h1.lt
  have h3:=h2.trans (zal hL h2.lt (s:=bs [61,62]))
  intro e
  exact zbv (s1 (ne _ h3.lt e)) (by decide)
 ·exact nr p hp
theorem zsA(hL:OkL L){rk:PS->Nod × PS}(hr:Tame L rk)(nr:Sel L rk)(signs:List ByteArray):∀(n:Nat) (a:Nod) (p:PS),p.at'<L.length->Tm L p (opsP L rk signs n a p).2/\(selN a->(opsP L rk signs n a p).2.e=0->selN (opsP L rk signs n a p).1)
 |0,a,p,hp=>by rw[opsP];exact⟨Tm.refl hp,fun ha _=>ha⟩
 | n+1,a,p,hp=>by
  rw[opsP]
  split
  ·exact⟨Tm.refl hp,fun ha _=>ha⟩
  ·rename_i s q h
   have h1:=zeR hL _ hp h
   have h2:=hr _ h1.1.lt
   have r:=zsA hL hr nr signs n (mkN L p 14 s 0 [] [] [a,(rk q).1]) (rk q).2 h2.lt
   exact⟨(h1.1.trans h2).trans r.1,fun ha e=>r.2 (zbv (s2 ha (nr _ h1.1.lt (r.1.z e))) (by decide)) e⟩
theorem zy0(hL:OkL L){ki:PS->Typ × PS}{rk:PS->Nod × PS}(hk:Tame L ki)(hr:Tame L rk)(nr:Sel L rk):Sel L (cmpP L ki rk):=fun p hp=>by
 have h1:=hr p hp
 have n1:=nr p hp
 unfold cmpP
 simp only
 split
 ·rename_i s q h
  have h2:=zeR hL _ h1.lt h
  have h3:=hr _ h2.1.lt
  intro e
  exact zbv (s2 (n1 (h2.1.z (h3.z e))) (nr _ h2.1.lt e)) (by decide)
 split
 ·have h2:=zag hL h1.lt (s:=bs [97,115])
  have h3:=hk _ h2.lt
  intro e
  exact zbv (s1 (n1 (h2.z (h3.z e)))) (by decide)
 split
 ·have h2:=zag hL h1.lt (s:=bs [105,115])
  split
  ·rename_i i q h
   have h3:=zhC hL _ _ h2.lt h
   intro e
   have:zdD.length=6:=rfl
   unfold mkN
   rw[selN]
   exact⟨fun z=>absurd z (by decide),fun z=>absurd z (by decide),fun _=>by omega,s1 (n1 (h2.z h3.2.2.1))⟩
  ·intro e
   exact absurd e (zj8 (by decide))
 ·exact n1
theorem zxj(hL:OkL L){ki:PS->Typ × PS}{un:PS->Nod × PS}(hk:Tame L ki)(hu:Tame L un)(nu:Sel L un):Sel L (znd L ki un):=by
 obtain⟨t5,t4,t3,t2,t1,t0⟩:=zhF hL hk hu
 have op:∀(f:PS->Nod × PS) (signs:List ByteArray),Tame L f->Sel L f->Sel L (fun p=>opsP L f signs (L.length+1) (f p).1 (f p).2):=fun f signs tf nf p hp e=>by
  have r:=zsA hL tf nf signs (L.length+1) (f p).1 (f p).2 (tf p hp).lt
  exact r.2 (nf p hp (r.1.z e)) e
 have n5:Sel L (ziN L un):=op un (zbm 5) hu nu
 have n4:Sel L (ziO L un):=op _ (zbm 4) t5 n5
 have n3:Sel L (znc L un):=op _ (zbm 3) t4 n4
 have n2:Sel L (ziP L ki un):=zy0 hL hk t3 n3
 have n1:Sel L (ziQ L ki un):=op _ (zbm 1) t2 n2
 exact op _ (zbm 0) t1 n1
theorem zqt(hL:OkL L){ex:PS->Nod × PS}(he:Tame L ex)(ne:Sel L ex):∀(n:Nat) (ns:List ByteArray) (ks:List Nod) (p:PS),p.at'<L.length->zc5 ks->(zcp L ex n ns ks p).2.e=0->zc5 (zcp L ex n ns ks p).1.2
 |0,ns,ks,p,hp,hk,e=>by rw[zcp];exact hk
 | n+1,ns,ks,p,hp,hk,e=>by
  have h1:=zaI hL hp
  have h2:=h1.trans (zal hL h1.lt (s:=bs [58]))
  have h3:=he _ h2.lt
  have h4:=zag hL h3.lt (s:=bs [44])
  have w:(ex (zay L (bs [58]) (zav L p).2)).2.e=0->zc5 (ks++[(ex (zay L (bs [58]) (zav L p).2)).1]):=fun e=>(zjI _).2 fun x hx=>by
   rcases List.mem_append.1 hx with hx|hx
   ·exact(zjI _).1 hk x hx
   ·rw[List.mem_singleton.1 hx];exact ne _ h2.lt e
  rw[zcp]at e⊢
  split
  ·rename_i c
   rw[if_pos c]at e
   exact zqt hL he ne n _ _ _ h4.lt (w (h4.z ((zhG hL he n _ _ _ h4.lt).z e))) e
  ·rename_i c
   rw[if_neg c]at e
   exact w (h4.z e)
theorem ztM(hL:OkL L){ex:PS->Nod × PS}(he:Tame L ex)(ne:Sel L ex)(q p:PS)(hp:p.at'<L.length):(zbJ L ex q p).2.e=0->selN (zbJ L ex q p).1:=by
 unfold zbJ
 split
 ·exact fun _=>zbv trivial (by decide)
 split
 ·have h1:=he p hp
  have h2:=zal hL h1.lt (s:=ziR)
  have h3:=h2.trans (zaI hL h2.lt)
  have h4:=h3.trans (zal hL h3.lt (s:=bs [58]))
  have h5:=he _ h4.lt
  have h6:=zal hL h5.lt (s:=bs [125])
  intro e
  have e5:=h6.z e
  exact zbv (s2 (ne _ hp (h4.z (h5.z e5))) (ne _ h4.lt e5)) (by decide)
 ·have h1:=zhG hL he (L.length+1) [] [] p hp
  have h2:=zal hL h1.lt (s:=bs [125])
  intro e
  exact zbv (zqt hL he ne (L.length+1) [] [] p hp trivial (h2.z e)) (by decide)
theorem zxk(hL:OkL L){ki:PS->Typ × PS}{ex:PS->Nod × PS}(hk:Tame L ki)(he:Tame L ex)(ne:Sel L ex):Sel L (zdE L ki ex):=fun p hp=>by
 unfold zdE
 by_cases c0:p.e=0/\(curT L p).kind=3
 ·rw[if_pos c0];exact fun _=>zbv trivial (by decide)
 rw[if_neg c0]
 by_cases c1:p.e=0/\(curT L p).kind=4
 ·rw[if_pos c1];exact fun _=>zbv trivial (by decide)
 rw[if_neg c1]
 by_cases c2:(zad L ziS p).1=true
 ·rw[if_pos c2];exact fun _=>by unfold mkN;rw[selN];exact⟨fun z=>absurd z (by decide),fun _=>by omega,fun z=>absurd z (by decide),trivial⟩
 rw[if_neg c2]
 by_cases c3:(zad L zgA p).1=true
 ·rw[if_pos c3];exact fun _=>by unfold mkN;rw[selN];exact⟨fun z=>absurd z (by decide),fun _=>by omega,fun z=>absurd z (by decide),trivial⟩
 rw[if_neg c3]
 by_cases c4:(zad L ziT p).1=true
 ·rw[if_pos c4];exact fun _=>zbv trivial (by decide)
 rw[if_neg c4]
 by_cases c5:(zad L zeE p).1=true
 ·rw[if_pos c5];exact fun _=>zbv trivial (by decide)
 rw[if_neg c5]
 by_cases c6:(zad L zcW p).1=true
 ·rw[if_pos c6]
  have h1:=zag hL hp (s:=zcW)
  have h2:=zal hL h1.lt (s:=bs [40])
  have h3:=he _ h2.lt
  exact fun e=>zbv (s1 (ne _ h2.lt ((zal hL h3.lt (s:=bs [41])).z e))) (by decide)
 rw[if_neg c6]
 by_cases c7:(zad L (bs [40]) p).1=true
 ·rw[if_pos c7]
  have h1:=zag hL hp (s:=bs [40])
  exact fun e=>ne _ h1.lt ((zal hL (he _ h1.lt).lt (s:=bs [41])).z e)
 rw[if_neg c7]
 by_cases c8:(zad L (bs [123]) p).1=true
 ·rw[if_pos c8];exact ztM hL he ne p _ (zag hL hp (s:=bs [123])).lt
 rw[if_neg c8]
 intro _
 show selN (if(zad L (bs [91]) (zav L p).2).1=true then _ else _:Nod × PS).1
 split
 ·exact zbv trivial (by decide)
 ·exact zbv trivial (by decide)
theorem zjJ(hL:OkL L)(hN:NmL L){ex:PS->Nod × PS}(he:Tame L ex)(ne:Sel L ex):∀(n:Nat) (a:Nod) (p:PS),p.at'<L.length->Tm L p (zb2 L ex n a p).2/\(selN a->(zb2 L ex n a p).2.e=0->selN (zb2 L ex n a p).1)
 |0,a,p,hp=>by rw[zb2];exact⟨Tm.refl hp,fun ha _=>ha⟩
 | n+1,a,p,hp=>by
  rw[zb2]
  split
  ·have h1:=zag hL hp (s:=bs [40])
   have h2:=he _ h1.lt
   have h3:=zal hL h2.lt (s:=bs [41])
   have r:=zjJ hL hN he ne n (mkN L p 7 (bs []) 0 [] [] [a,(ex (zad L (bs [40]) p).2).1]) _ h3.lt
   exact⟨((h1.trans h2).trans h3).trans r.1,fun ha e=>r.2 (zbv (s2 ha (ne _ h1.lt (h3.z (r.1.z e)))) (by decide)) e⟩
  split
  ·have h1:=zag hL hp (s:=bs [46])
   have h2:=zaI hL h1.lt
   have r:=zjJ hL hN he ne n (mkN L p 9 (zav L (zad L (bs [46]) p).2).1 0 [] [] [a]) _ h2.lt
   exact⟨(h1.trans h2).trans r.1,fun ha e=>r.2 (by unfold mkN;rw[selN];exact⟨fun _=>zxh hN (r.1.z e),fun z=>absurd z (by decide),fun z=>absurd z (by decide),s1 ha⟩) e⟩
  ·exact⟨Tm.refl hp,fun ha _=>ha⟩
theorem zvl(hL:OkL L)(hN:NmL L){ki:PS->Typ × PS}{ex un:PS->Nod × PS}(hk:Tame L ki)(he:Tame L ex)(ne:Sel L ex)(nu:Sel L un):Sel L (zdX L ki ex un):=fun p hp=>by
 unfold zdX
 split
 ·exact fun e=>zbv (s1 (nu _ (zag hL hp (s:=bs [45])).lt e)) (by decide)
 split
 ·exact fun e=>zbv (s1 (nu _ (zag hL hp (s:=wNot)).lt e)) (by decide)
 ·have ta:=zkr hL hk he p hp
  have r:=zjJ hL hN he ne (L.length+1) (zdE L ki ex p).1 (zdE L ki ex p).2 ta.lt
  exact fun e=>r.2 (zxk hL hk he ne p hp (r.1.z e)) e
theorem zzM(hL:OkL L)(hN:NmL L){ki:PS->Typ × PS}(hk:Tame L ki)(d:Nat):Sel L (euP L ki d).1/\Sel L (euP L ki d).2:=by
 have n0:selN noN:=by simp[selN,noN,zc5]
 induction d with
 |zero=>exact⟨fun p hp _=>n0,fun p hp _=>n0⟩
 | succ d ih=>
  have tm:=zmL hL hk d
  have up:∀(f:PS->Nod × PS),Sel L f->Sel L (fun p=>if(zau L p).1=true then zcn (f (zau L p).2)else(noN,(zau L p).2)):=fun f nf p hp=>by
   show(if(zau L p).1=true then _ else _:Nod × PS).2.e=0->selN (if(zau L p).1=true then _ else _:Nod × PS).1
   by_cases c:(zau L p).1=true
   ·have hp':(zau L p).2.at'<L.length:=by rw[(zb3 c).1];exact hp
    rw[if_pos c]
    exact fun e=>nf _ hp' e
   ·rw[if_neg c];exact fun _=>n0
  rw[euP]
  exact⟨up _ (zxi hL hk tm.1 ih.1 (zxj hL hk tm.2 ih.2)),up _ (zvl hL hN hk tm.1 ih.1 ih.2)⟩
theorem zqu(hL:OkL L)(hN:NmL L):∀(n:Nat) (l:List Dec) (p:PS),p.at'<L.length->(zbO L n l p).2.e=0->(∀d,d∈l->selN d.body)->∀d,d∈(zbO L n l p).1->selN d.body
 |0,l,p,hp,e,h,d,hd=>by rw[zbO]at hd;exact h d hd
 | n+1,l,p,hp,e,h,d,hd=>by
  rw[zbO]at hd e
  split at hd
  ·rename_i c
   rw[if_pos c]at e
   have h1:=zpT hL p hp
   have e1:=(zkj hL n (l++[(decP L p).1]) _ h1.lt).z e
   refine zqu hL hN n _ _ h1.lt e (fun x hx=>?_) d hd
   rcases List.mem_append.1 hx with hx|hx
   ·exact h x hx
   ·rw[List.mem_singleton.1 hx]
    have h1:=zag hL hp (s:=zdF)
    have h2:=h1.trans (zal hL h1.lt (s:=wFn))
    have h3:=h2.trans (zaI hL h2.lt)
    have h4:=h3.trans (zki hL _ h3.lt)
    have h5:=h4.trans (zeh hL (zcB hL) _ h4.lt)
    have h6:=h5.trans (zal hL h5.lt (s:=bs [61]))
    have h7:=zkh hL _ h6.lt
    exact(zzM hL hN (zcB hL) 102).1 _ h6.lt ((zal hL h7.lt (s:=bs [59])).z e1)
  ·exact h d hd
end
theorem zvm(s:ByteArray):∀d,d∈(zba s).1.decs->selN d.body:=fun d hd=>by
 unfold zba at hd
 simp only at hd
 by_cases q1:(lexP s).2.e=0
 ·obtain⟨hL,hl⟩:=zkm q1
  rw[if_neg (fun z=>z q1)]at hd
  split at hd
  ·cases hd
  ·rename_i q2
   have h0:ps0.at'<(lexP s).1.length:=hL.pos
   refine zqu hL (zyZ s) _ _ _ (zhp hL _ _ _ h0).lt ?_ (fun x hx=>by cases hx) d hd
   apply Classical.byContradiction
   intro z
   refine q2 ?_
   unfold endP
   rw[if_neg (fun y=>z y.1)]
   exact z
 ·rw[if_pos q1]at hd;cases hd
end Go.Gr
namespace Go.Gr
open Go.Abs Go.Proofs
def shC(M G:Nat)(k n:Int)(ns:List ByteArray)(ts:List Typ)(q:Nat):Prop:=
 ((k=0\/k=1\/k=3\/k=4\/k=20)/\q=0)\/(k=2/\q=0/\(n=0\/n=1))\/(k=6/\q=0/\0<=n/\n<G)\/((k=5\/k=9\/k=16\/k=17\/k=19)/\q=1)\/(k=12/\q=1/\0<=n/\n<6)\/((k=7\/k=10\/k=14\/k=15\/k=18)/\q=2)\/(k=13/\q=2/\0<=n/\n<11)\/(k=11/\q=3)\/(k=8/\ns.length=q/\ns.Nodup)\/(k=21/\q=1/\0<=n/\n<M/\∃a b,ts=[a,b]/\isNR a=true/\isNR b=true)
theorem shC.cast{M G:Nat}{n:Int}{ns:List ByteArray}{a b:Typ}(h0:0<=n)(h1:n<M)(ha:isNR a=true)(hb:isNR b=true):shC M G 21 n ns [a,b] 1:=by
 simp[shC]
 exact⟨h0,h1,a,b,⟨rfl,rfl⟩,ha,hb⟩
mutual
def okC(M G:Nat):Cor->Prop
 |.mk k n _ _ ns ts _ ks=>shC M G k n ns ts ks.length/\okCs M G ks
def okCs(M G:Nat):List Cor->Prop
 |[]=>True
 |c::l=>okC M G c/\okCs M G l
end
structure Keep (s s':CS):Prop where
 e:s'.e=0->s.e=0
 sites:s.sites.length<=s'.sites.length
 tab:s.tab.length<=s'.tab.length
theorem Keep.refl(s:CS):Keep s s:=⟨id,Nat.le_refl _,Nat.le_refl _⟩
theorem Keep.trans{a b c:CS}(h:Keep a b)(k:Keep b c):Keep a c:=⟨fun e=>h.e (k.e e),Nat.le_trans h.sites k.sites,Nat.le_trans h.tab k.tab⟩
theorem zhw(a b e:Int)(s:CS):Keep s (zaL a b e s):=by
 unfold zaL
 split
 ·rename_i q;exact⟨fun _=>q,Nat.le_refl _,Nat.le_refl _⟩
 ·exact Keep.refl s
theorem zhx{a b e:Int}{s:CS}(h:e≠0):(zaL a b e s).e≠0:=by
 unfold zaL
 split
 ·exact h
 ·rename_i q;exact q
section
variable (M G:Nat)
def Res(s:CS)(P:Prop)(s':CS):Prop:=Keep s s'/\(s'.e=0->s'.sites.length<=M->s'.tab.length<=G->P)
variable {M G}
theorem Res.ret{s:CS}{P:Prop}(h:P):Res M G s P s:=⟨Keep.refl s,fun _ _ _=>h⟩
theorem Res.bind{s t u:CS}{P Q:Prop}(h:Res M G s P t)(k:Res M G t Q u):Res M G s (P/\Q) u:=
 ⟨h.1.trans k.1,fun e a b=>⟨h.2 (k.1.e e) (Nat.le_trans k.1.sites a) (Nat.le_trans k.1.tab b),k.2 e a b⟩⟩
theorem Res.imp{s t:CS}{P Q:Prop}(h:Res M G s P t)(f:P->Q):Res M G s Q t:=⟨h.1,fun e a b=>f (h.2 e a b)⟩
theorem Res.fail{s:CS}{P:Prop}{a b e:Int}(h:e≠0):Res M G s P (zaL a b e s):=⟨zhw a b e s,fun z=>absurd z (zhx h)⟩
theorem zdd(t:Typ)(a b:Int)(s:CS):Res M G s (isNR (zas t a b s).1=true) (zas t a b s).2:=by
 unfold zas
 simp only
 split
 ·exact .fail (by decide)
 ·rename_i q;exact .ret (zrO (by simpa using q))
theorem zmn(t:Typ)(a b:Int)(s:CS):Res M G s (isNR (zbf t a b s).1=true/\(zaS t).2=0) (zbf t a b s).2:=by
 unfold zbf
 simp only
 split
 ·exact .fail (by decide)
 ·rename_i q
  have q:(zaS t).2=0:=by simpa using q
  exact .ret ⟨zgS q,q⟩
theorem zjt(x:Cor)(t u:Typ)(a b:Int)(s:CS):Res M G s (okC M G x->isNR t=true->isNR u=true->okC M G (zaT x t u a b s).1) (zaT x t u a b s).2:=by
 unfold zaT
 split
 ·exact .ret fun h _ _=>h
 ·rename_i q
  have q:s.e=0:=by simpa using q
  refine⟨⟨fun _=>q,by simp,Nat.le_refl _⟩,fun _ h _ hx ht hu=>?_⟩
  simp only[List.length_append,List.length_cons,List.length_nil]at h
  simp only[okC,okCs,and_true]
  exact⟨.cast (by omega) (by omega) ht hu,hx⟩
theorem zde(x:Cor)(t u:Typ)(a b:Int)(s:CS):Res M G s (okC M G x->isNR t=true->isNR u=true->okC M G (zaA x t u a b s).1) (zaA x t u a b s).2:=by
 unfold zaA
 split
 ·exact .ret fun h _ _=>h
 split
 ·exact .ret fun h _ _=>h
 split
 ·exact zjt x t u a b s
 ·exact .fail (by decide)
theorem zyt(u:Typ)(hu:isNR u=true)(a b:Int)(x:(Cor × Typ) × CS):Res M G x.2 (okC M G x.1.1/\isNR x.1.2=true->okC M G (anyC u a b x).1.1/\isNR (anyC u a b x).1.2=true) (anyC u a b x).2:=by
 unfold anyC
 split
 ·exact(zjt _ _ _ _ _ _).imp fun h k=>⟨h k.1 k.2 hu,hu⟩
 ·exact .ret id
theorem zmo(a b:Int):∀(ts l:List Typ) (s:CS),Keep s (zbX a b ts l s).2
 |[],l,s=>by rw[zbX];exact Keep.refl s
 |t::ts,l,s=>by
  rw[zbX]
  split
  ·exact Keep.refl s
  ·exact(zdd (M:=0) (G:=0) t a b s).1.trans (zmo a b ts _ _)
theorem zyT{l:List Ist}{x:Ist}:l.length<=(addR 256 l x).2.length/\((addR 256 l x).1.2=0->0<=(addR 256 l x).1.1/\(addR 256 l x).1.1<(addR 256 l x).2.length):=by
 have h:=zkd (fun y=>zfS y x) l
 unfold addR
 split
 ·exact⟨Nat.le_refl _,fun z=>absurd z (by simp)⟩
 split
 ·rename_i q
  refine⟨Nat.le_refl _,fun _=>⟨q,?_⟩⟩
  simp only
  omega
 split
 ·exact⟨Nat.le_refl _,fun z=>absurd z (by simp)⟩
 ·exact⟨by simp,fun _=>by simp;omega⟩
def EnvN(env:Env):Prop:=∀v,v∈env->isNR v.2=true
theorem EnvN.more{env:Env}(h:EnvN env)(x:ByteArray){t:Typ}(ht:isNR t=true):EnvN (env++[(x,t)]):=fun v hv=>by
 rcases List.mem_append.1 hv with hv|hv
 ·exact h v hv
 ·rw[List.mem_singleton.1 hv];exact ht
theorem EnvN.get{env:Env}(h:EnvN env)(k:Nat):isNR (env.getD k (bs [],noT)).2=true:=by
 rw[List.getD_eq_getElem?_getD]
 cases e:env[k]? with
 |none=>exact zc0
 |some v=>exact h v (List.mem_of_getElem? e)
variable (M G)
def GInf(i:Inf):Prop:=∀env s,Res M G s (EnvN env->okC M G (i env s).1.1/\isNR (i env s).1.2=true) (i env s).2
variable {M G}
section
variable (L:Lnk)
theorem zp6(a b:Int)(e:Ent)(l:List Typ)(s:CS):Res M G s (okC M G (zbg L a b e l s).1.1/\isNR (zbg L a b e l s).1.2=true) (zbg L a b e l s).2:=by
 unfold zbg
 split
 ·exact .fail (by decide)
 ·rename_i q
  simp only
  have h:=zyT (l:=s.tab) (x:=⟨e.module,e.decl,l⟩)
  generalize addR 256 s.tab ⟨e.module,e.decl,l⟩=r at*
  have k:Keep s {s with tab:=r.2}:=⟨id,Nat.le_refl _,h.1⟩
  split
  ·rename_i q2
   exact⟨k.trans (zhw _ _ _ _),fun z=>absurd z (zhx q2)⟩
  ·rename_i q2
   have q2:=h.2 (by simpa using q2)
   refine⟨k,fun _ _ hG=>⟨?_,?_⟩⟩
   ·simp only[cN,okC,okCs,and_true]
    simp[shC]
    simp only at hG
    omega
   ·have q:(sigR L e l).2=true:=by simpa using q
    unfold sigR at q⊢
    simp only[Bool.and_eq_true,decide_eq_true_eq]at q
    exact zgS q.2.2
theorem zyU(n:Nod):GInf M G (zcG L n):=fun env s=>by
 unfold zcG
 simp only
 split
 ·exact .ret fun he=>⟨by simp[cN,okC,okCs,shC],he.get _⟩
 split
 ·exact .fail (by decide)
 split
 ·exact .fail (by decide)
 split
 ·exact .fail (by decide)
 split
 ·exact(zp6 L _ _ _ _ _).imp fun h _=>h
 split
 ·rename_i q
  exact⟨zmo _ _ _ _ _,fun z=>absurd z q⟩
 split
 ·rename_i q
  exact⟨(zmo _ _ _ _ _).trans (zhw _ _ _ _),fun z=>absurd z (zhx q)⟩
 ·have h:=zp6 (M:=M) (G:=G) L n.line n.col (zbz (L.scopes.getD s.module.toNat []) n.text).1 (zbX n.line n.col n.types [] s).1 (zbX n.line n.col n.types [] s).2
  exact⟨(zmo _ _ _ _ _).trans h.1,fun e a b _=>h.2 e a b⟩
theorem zAs(n a:Nod){ia ib:Inf}(ha:GInf M G ia)(hb:GInf M G ib):GInf M G (letC n a ia ib):=fun env s=>by
 unfold letC
 simp only
 have h1:=ha env s
 generalize ia env s=x at*
 obtain⟨y,hy⟩:∃y,(if 0<n.types.length/\x.2.e=0 then(((zaA x.1.1 x.1.2 (zas (n.types.getD 0 noT) n.line n.col x.2).1 a.line a.col (zas (n.types.getD 0 noT) n.line n.col x.2).2).1,(zas (n.types.getD 0 noT) n.line n.col x.2).1),(zaA x.1.1 x.1.2 (zas (n.types.getD 0 noT) n.line n.col x.2).1 a.line a.col (zas (n.types.getD 0 noT) n.line n.col x.2).2).2)else x)=y:=⟨_,rfl⟩
 have h2:Res M G x.2 (okC M G x.1.1/\isNR x.1.2=true->okC M G y.1.1/\isNR y.1.2=true) y.2:=by
  rw[<-hy]
  split
  ·exact((zdd _ _ _ _).bind (zde _ _ _ _ _ _)).imp fun h k=>⟨h.2 k.1 k.2 h.1,h.1⟩
  ·exact .ret id
 rw[hy]
 refine(h1.bind (h2.bind (hb (env++[(n.text,y.1.2)]) y.2))).imp fun h he=>?_
 have y1:=h.2.1 (h.1 he)
 have z1:=h.2.2 (he.more _ y1.2)
 exact⟨by simp only[cK,okC,okCs,and_true];exact⟨by simp[shC],y1.1,z1.1⟩,z1.2⟩
theorem g_fn(n a:Nod){ia:Inf}(ha:GInf M G ia):GInf M G (fnC n a ia):=fun env s=>by
 unfold fnC
 simp only
 have h1:=zdd (M:=M) (G:=G) (n.types.getD 0 noT) n.line n.col s
 generalize zas (n.types.getD 0 noT) n.line n.col s=p at*
 obtain⟨q,hq⟩:∃q,(if 1<n.types.length/\p.2.e=0 then zas (n.types.getD 1 noT) n.line n.col p.2 else(noT,p.2))=q:=⟨_,rfl⟩
 have h2:Res M G p.2 (isNR q.1=true) q.2:=by
  rw[<-hq]
  split
  ·exact zdd _ _ _ _
  ·exact .ret zc0
 rw[hq]
 have h3:=ha (env++[(n.text,p.1)]) q.2
 generalize ia (env++[(n.text,p.1)]) q.2=x at*
 obtain⟨y,hy⟩:∃y,(if 1<n.types.length then(((zaA x.1.1 x.1.2 q.1 a.line a.col x.2).1,q.1),(zaA x.1.1 x.1.2 q.1 a.line a.col x.2).2)else x)=y:=⟨_,rfl⟩
 have h4:Res M G x.2 (okC M G x.1.1/\isNR x.1.2=true->isNR q.1=true->okC M G y.1.1) y.2:=by
  rw[<-hy]
  split
  ·exact(zde _ _ _ _ _ _).imp fun h k kq=>h k.1 k.2 kq
  ·exact .ret fun k _=>k.1
 rw[hy]
 refine(((h1.bind h2).bind h3).bind (h4.bind (zmn _ _ _ _))).imp fun h he=>?_
 exact⟨by simp only[cK,okC,okCs,and_true];exact⟨by simp[shC],h.2.1 (h.1.2 (he.more _ h.1.1.1)) h.1.1.2⟩,h.2.2.1⟩
theorem zu5{t:Typ}(h:isNR t=true)(i:Nat):isNR (t.kids.getD i noT)=true:=by
 rw[List.getD_eq_getElem?_getD]
 cases e:t.kids[i]? with
 |none=>exact zc0
 |some v=>exact ziq h (List.mem_of_getElem? e)
theorem zzI(n b:Nod){ia ib:Inf}(ha:GInf M G ia)(hb:GInf M G ib):GInf M G (zdv n b ia ib):=fun env s=>by
 unfold zdv
 simp only
 have h1:=(ha env s).bind (zyt (fnT noT noT) zxn n.line n.col (ia env s))
 generalize anyC (fnT noT noT) n.line n.col (ia env s)=x at*
 split
 ·exact⟨h1.1.trans (zhw _ _ _ _),fun z=>absurd z (zhx (by decide))⟩
 ·refine(h1.bind ((hb env x.2).bind (zde _ _ _ _ _ _))).imp fun h he=>?_
  have x1:=h.1.2 (h.1.1 he)
  have y1:=h.2.1 he
  exact⟨by simp only[cK,okC,okCs,and_true];exact⟨by simp[shC],x1.1,h.2.2 y1.1 y1.2 (zu5 x1.2 0)⟩,zu5 x1.2 1⟩
theorem zAt(n:Nod)(hn:za1 n.text=true){ia:Inf}(ha:GInf M G ia):GInf M G (selC n ia):=fun env s=>by
 unfold selC
 simp only
 have h1:=ha env s
 generalize ia env s=x at*
 obtain⟨y,hy⟩:∃y,(if x.1.2.kind=0 then zaT x.1.1 x.1.2 (.mk 5 (bs []) [n.text] [noT]) n.line n.col x.2 else(x.1.1,x.2))=y:=⟨_,rfl⟩
 have h2:Res M G x.2 (okC M G x.1.1/\isNR x.1.2=true->okC M G y.1) y.2:=by
  rw[<-hy]
  split
  ·exact(zjt _ _ _ _ _ _).imp fun h k=>h k.1 k.2 (zxo hn)
  ·exact .ret fun k=>k.1
 rw[hy]
 have key:(EnvN env->okC M G x.1.1/\isNR x.1.2=true)/\(okC M G x.1.1/\isNR x.1.2=true->okC M G y.1)->EnvN env->okC M G (cT 9 n.text [y.1])/\isNR (zaz x.1.2 n.text).1=true:=fun h he=>
  ⟨by simp only[cT,okC,okCs,and_true];exact⟨by simp[shC],h.2 (h.1 he)⟩,ztO (h.1 he).2 _⟩
 split
 ·exact(h1.bind h2).imp key
 ·exact⟨(h1.bind h2).1.trans (zhw _ _ _ _),fun z=>absurd z (zhx (by decide))⟩
theorem zzJ(n:Nod){ia ib:Inf}(ha:GInf M G ia)(hb:GInf M G ib):GInf M G (zdw n ia ib):=fun env s=>by
 unfold zdw
 simp only
 have h1:=(ha env s).bind (zyt (bT 5) zqy n.line n.col (ia env s))
 generalize anyC (bT 5) n.line n.col (ia env s)=x at*
 split
 ·exact⟨h1.1.trans (zhw _ _ _ _),fun z=>absurd z (zhx (by decide))⟩
 ·refine(h1.bind ((hb env x.2).bind (zmn _ _ _ _))).imp fun h he=>?_
  exact⟨by simp only[cT,okC,okCs,and_true];exact⟨by simp[shC],(h.1.2 (h.1.1 he)).1,(h.2.1 he).1⟩,h.2.2.1⟩
theorem zp7(q:Nod){env:Env}(h:EnvN env):EnvN (zaO q env).1/\EnvN (zaO q env).2:=by
 unfold zaO
 split
 ·simp only
  have k:=ztQ (h.get (zbD env (q.kids.getD 0 noN).text).toNat) q.n
  exact⟨fun v hv=>(List.mem_or_eq_of_mem_set hv).elim (h v) fun e=>by rw[e];exact k.1,fun v hv=>(List.mem_or_eq_of_mem_set hv).elim (h v) fun e=>by rw[e];exact k.2⟩
 ·exact⟨h,h⟩
theorem g_if(q a b:Nod){iq ia ib:Inf}(hq:GInf M G iq)(ha:GInf M G ia)(hb:GInf M G ib):GInf M G (ifC q a b iq ia ib):=fun env s=>by
 unfold ifC
 simp only
 have h1:=(hq env s).bind (zde (iq env s).1.1 (iq env s).1.2 (bT 2) q.line q.col (iq env s).2)
 generalize zaA (iq env s).1.1 (iq env s).1.2 (bT 2) q.line q.col (iq env s).2=x at*
 have h2:=ha (zaO q env).1 x.2
 generalize ia (zaO q env).1 x.2=y at*
 have h3:=hb (zaO q env).2 y.2
 generalize ib (zaO q env).2 y.2=z at*
 refine(h1.bind (h2.bind (h3.bind ((zde _ _ _ _ _ _).bind (zde _ _ _ _ _ _))))).imp fun h he=>?_
 have q1:=h.1.1 he
 have y1:=h.2.1 (zp7 q he).1
 have z1:=h.2.2.1 (zp7 q he).2
 have j:=zxp y1.2 z1.2
 exact⟨by simp only[cK,okC,okCs,and_true];exact⟨by simp[shC],h.1.2 q1.1 q1.2 (zbV 2 (by omega) (by omega)),h.2.2.2.1 y1.1 y1.2 j,h.2.2.2.2 z1.1 z1.2 j⟩,j⟩
theorem g_as(n:Nod){ia:Inf}(ha:GInf M G ia):GInf M G (asC n ia):=fun env s=>by
 unfold asC
 simp only
 have h1:=ha env s
 generalize ia env s=x at*
 split
 ·exact h1
 have h2:=h1.bind (zdd (M:=M) (G:=G) (n.types.getD 0 noT) n.line n.col x.2)
 generalize zas (n.types.getD 0 noT) n.line n.col x.2=u at*
 split
 ·exact h2.imp fun h he=>⟨(h.1 he).1,h.2⟩
 rename_i q
 have e0:u.2.e=0:=Classical.byContradiction fun z=>q (.inl z)
 obtain⟨y,hy⟩:∃y,(if x.1.2.kind≠0 then zaT x.1.1 x.1.2 noT n.line n.col u.2 else(x.1.1,u.2))=y:=⟨_,rfl⟩
 have h3:Res M G u.2 (okC M G x.1.1/\isNR x.1.2=true->okC M G y.1) y.2:=by
  rw[<-hy]
  split
  ·exact(zjt _ _ _ _ _ _).imp fun h k=>h k.1 k.2 zc0
  ·exact .ret fun k=>k.1
 have h4:x.1.2.kind≠0->Res M G y.2 (0<=y.1.n/\y.1.n<M) y.2:=fun k=>by
  rw[if_pos k]at hy
  unfold zaT at hy
  rw[if_neg (fun z=>z e0)]at hy
  rw[<-hy]
  exact⟨Keep.refl _,fun _ a _=>by simp only[List.length_append,List.length_cons,List.length_nil]at a;simp only[Cor.n];omega⟩
 rw[hy]
 split
 ·exact(h2.bind h3).imp fun h he=>⟨h.2 (h.1.1 he),h.1.2⟩
 split
 ·exact(h2.bind (h3.bind (zjt _ _ _ _ _ _))).imp fun h he=>⟨h.2.2 (h.2.1 (h.1.1 he)) (h.1.1 he).2 h.1.2,h.1.2⟩
 ·rename_i k0
  refine(h2.bind (h3.bind (h4 k0))).imp fun h he=>⟨?_,h.1.2⟩
  simp only[okC,okCs,and_true]
  exact⟨.cast h.2.2.1 h.2.2.2 zc0 h.1.2,h.2.1 (h.1.1 he)⟩
theorem zdN(n:Nod){i:Inf}(hi:GInf M G i)(t:Typ)(ht:isNR t=true)(env:Env)(s:CS):Res M G s (EnvN env->okC M G (zaZ n i t env s).1) (zaZ n i t env s).2:=by
 unfold zaZ
 exact((hi env s).bind (zde _ _ _ _ _ _)).imp fun h he=>h.2 (h.1 he).1 (h.1 he).2 ht
theorem g_op(n a b:Nod){ia ib:Inf}(ha:GInf M G ia)(hb:GInf M G ib):GInf M G (opC n a b ia ib):=fun env s=>by
 have b2:=zbV 2 (by omega) (by omega)
 have b3:=zbV 3 (by omega) (by omega)
 have b4:=zbV 4 (by omega) (by omega)
 unfold opC
 simp only
 split
 ·exact((zdN a ha _ b2 env s).bind (zdN b hb _ b2 env _)).imp fun h he=>⟨by simp only[cK,okC,okCs,and_true];exact⟨by simp[shC],h.1 he,by simp[cN,okC,okCs,shC],h.2 he⟩,b2⟩
 split
 ·exact((zdN a ha _ b2 env s).bind (zdN b hb _ b2 env _)).imp fun h he=>⟨by simp only[cK,okC,okCs,and_true];exact⟨by simp[shC],h.1 he,h.2 he,by simp[cN,okC,okCs,shC]⟩,b2⟩
 split
 ·exact((ha env s).bind (hb env _)).imp fun h he=>⟨by simp only[cK,okC,okCs,and_true];exact⟨by simp[shC],(h.1 he).1,(h.2 he).1⟩,b2⟩
 split
 ·exact((zdN a ha _ b4 env s).bind (zdN b hb _ b4 env _)).imp fun h he=>⟨by simp only[cK,okC,okCs,and_true];exact⟨by simp[shC],h.1 he,h.2 he⟩,b4⟩
 ·refine((zdN a ha _ b3 env s).bind (zdN b hb _ b3 env _)).imp fun h he=>⟨?_,by split<;>assumption⟩
  simp only[okC,okCs,and_true]
  have o:0<=opZ n.text/\opZ n.text<11:=by
   have:=zkd (fun x=>decide (x=n.text)) zca
   have e:zca.length=11:=rfl
   unfold opZ
   omega
  exact⟨by simp[shC];exact o,h.1 he,h.2 he⟩
theorem zAu(n a:Nod)(hn:n.kind=12->0<=n.n/\n.n<6){ia:Inf}(ha:GInf M G ia):GInf M G (oneC n a ia):=fun env s=>by
 have b2:=zbV 2 (by omega) (by omega)
 have b3:=zbV 3 (by omega) (by omega)
 unfold oneC
 split
 ·exact(zdN a ha _ b2 env s).imp fun h he=>⟨by simp only[cK,okC,okCs,and_true];exact⟨by simp[shC],h he⟩,b2⟩
 split
 ·exact(zdN a ha _ b3 env s).imp fun h he=>⟨by simp only[cK,okC,okCs,and_true];exact⟨by simp[shC],h he⟩,b3⟩
 split
 ·rename_i k
  exact(ha env s).imp fun h he=>⟨by simp only[okC,okCs,and_true];exact⟨by simp[shC];exact hn k,(h he).1⟩,b2⟩
 ·exact(ha env s).imp fun h he=>⟨by simp only[cK,okC,okCs,and_true];exact⟨by simp[shC],(h he).1⟩,zbV 1 (by omega) (by omega)⟩
theorem zp8:∀{l:List Cor},okCs M G l↔∀x,x∈l->okC M G x
 |[]=>by simp[okCs]
 |c::l=>by simp[okCs,zp8 (l:=l)]
theorem zp9:∀(l:List Nod),(∀x,x∈l->GInf M G (zao L x))->∀env s,Res M G s (EnvN env->okCs M G (zaN L l env s).1.1/\(zaN L l env s).1.1.length=(zaN L l env s).1.2.length) (zaN L l env s).2
 |[],_,env,s=>by rw[zaN];exact .ret fun _=>⟨trivial,rfl⟩
 |n::l,h,env,s=>by
  rw[zaN]
  exact((h n (by simp) env s).bind (zp9 l (fun x hx=>h x (by simp[hx])) env _)).imp fun h he=>⟨⟨(h.1 he).1,(h.2 he).1⟩,by simp[(h.2 he).2]⟩
theorem zu6:∀(l had:List ByteArray),dupS had l=false->had.Nodup->(had++l).Nodup
 |[],had,_,h=>by simpa using h
 | n::l,had,e,h=>by
  rw[dupS,Bool.or_eq_false_iff]at e
  have:=zu6 l (had++[n]) e.2 (List.nodup_append.2 ⟨h,by simp,fun a ha b hb z=>by
   rw[List.mem_singleton]at hb
   have:=e.1
   rw[List.any_eq_false]at this
   exact this a ha (by simp[z,hb])⟩)
  simpa using this
theorem zok:∀l:List Typ,(zaD l).2=true->(zaD l).1.length=l.length
 |[],_=>rfl
 | t::l,h=>by
  rw[zaD]at h⊢
  split at h
  ·rename_i q
   rw[if_pos q,List.length_cons,List.length_cons,zok l h]
  ·cases h
theorem zyV{ns:List ByteArray}{ts:List Typ}(h:(zaS (.mk 5 (bs []) ns ts)).2=0):ns.length=ts.length:=by
 have f:=(zep h).1
 rw[zaP,if_pos (by omega)]at f
 split at f
 ·rename_i q
  have e:(zaD ts).1.length=ts.length:=zok ts q
  rw[finR,if_pos rfl]at f
  unfold zcE at f
  split at f
  ·cases f
  ·rename_i z;omega
 ·cases f
theorem zAv(n:Nod)(h:∀x,x∈n.kids->GInf M G (zao L x)):GInf M G (recC n (zaN L n.kids)):=fun env s=>by
 unfold recC
 simp only
 obtain⟨s1,e1⟩:∃s1,(if dupS [] n.names=true then zaL n.line n.col 8 s else s)=s1:=⟨_,rfl⟩
 have h1:Res M G s (n.names.Nodup) s1:=by
  rw[<-e1]
  split
  ·exact .fail (by decide)
  ·rename_i q
   exact .ret (by simpa using zu6 n.names [] (by simpa using q) (by simp))
 rw[e1]
 refine(h1.bind ((zp9 L n.kids h env s1).bind (zmn _ _ _ _))).imp fun h he=>?_
 have k:=h.2.1 he
 have e:=zyV h.2.2.2
 exact⟨by simp only[okC];exact⟨by simp[shC,k.2,e];exact h.1,k.1⟩,h.2.2.1⟩
theorem zmp{j:Inf}(h:GInf M G j):GInf M G (stopC j):=fun env s=>by
 unfold stopC
 split
 ·rename_i q;exact⟨Keep.refl s,fun z=>absurd z q⟩
 ·exact h env s
theorem zmq(n:Nod)(hn:n.kind=2->n.n=0\/n.n=1){rest:Inf}(hr:GInf M G rest)(h:∀x,x∈n.kids->GInf M G (zao L x)):GInf M G (headC L n rest):=fun env s=>by
 unfold headC
 split
 ·exact .ret fun _=>⟨by simp[cN,okC,okCs,shC],zbV 3 (by omega) (by omega)⟩
 split
 ·exact .ret fun _=>⟨by simp[cT,okC,okCs,shC],zbV 4 (by omega) (by omega)⟩
 split
 ·rename_i k
  exact .ret fun _=>⟨by simp[cN,okC,okCs,shC,hn k],zbV 2 (by omega) (by omega)⟩
 split
 ·exact .ret fun _=>⟨by simp[cN,okC,okCs,shC],zbV 1 (by omega) (by omega)⟩
 split
 ·exact .ret fun _=>⟨by simp[cN,okC,okCs,shC],zbV 3 (by omega) (by omega)⟩
 split
 ·exact zyU L n env s
 split
 ·exact zAv L n h env s
 ·exact hr env s
theorem zw5(n:Nod)(hn:selN n)(h:∀x,x∈n.kids->GInf M G (zao L x)):GInf M G (zao L n):=by
 obtain⟨k,tx,nn,ln,cl,ts,ns,ks⟩:=n
 rw[selN]at hn
 obtain⟨n9,n2,n12,_⟩:=hn
 match ks,h with
 |[],h=>
  rw[eq0]
  exact zmp (zmq L (.mk k tx nn ln cl ts ns []) n2 (fun env s=>.ret fun _=>⟨by simp[noC,cN,okC,okCs,shC],zc0⟩) h)
 |[a],h=>
  have ha:=h a (by simp[Nod.kids])
  rw[eq1]
  refine zmp (zmq L (.mk k tx nn ln cl ts ns [a]) n2 (fun env s=>?_) h)
  unfold zgC
  split
  ·exact g_fn _ _ ha env s
  split
  ·rename_i k9;exact zAt (.mk k tx nn ln cl ts ns [a]) (n9 k9) ha env s
  split
  ·exact g_as _ ha env s
  ·exact zAu (.mk k tx nn ln cl ts ns [a]) _ n12 ha env s
 |[a,b],h=>
  have ha:=h a (by simp[Nod.kids])
  have hb:=h b (by simp[Nod.kids])
  rw[eq2]
  refine zmp (zmq L (.mk k tx nn ln cl ts ns [a,b]) n2 (fun env s=>?_) h)
  unfold zgD
  split
  ·exact zAs _ _ ha hb env s
  split
  ·exact zzI _ _ ha hb env s
  split
  ·exact zzJ _ ha hb env s
  ·exact g_op _ _ _ ha hb env s
 |a::b::c::l,h=>
  rw[eq3]
  exact zmp (zmq L (.mk k tx nn ln cl ts ns (a::b::c::l)) n2 (g_if a b c (h a (by simp[Nod.kids])) (h b (by simp[Nod.kids])) (h c (by simp[Nod.kids]))) h)
mutual
theorem zst:∀n:Nod,selN n->GInf M G (zao L n)
 |.mk k tx nn ln cl ts ns ks,h=>zw5 L _ h (zqa ks (by rw[selN]at h;exact h.2.2.2))
theorem zqa:∀l:List Nod,zc5 l->∀x,x∈l->GInf M G (zao L x)
 |[],_,x,hx=>by cases hx
 |n::l,h,x,hx=>by
  rw[zc5]at h
  rcases List.mem_cons.1 hx with e|e
  ·rw[e];exact zst n h.1
  ·exact zqa l h.2 x e
end
end
end
end Go.Gr
namespace Go.Gr
open Go.Abs Go.Proofs
def SelM(l:List Mdl):Prop:=∀m,m∈l->∀d,d∈m.decs->selN d.body
theorem zl7:∀(l:List (ByteArray × ByteArray)) (i:Nat) (ns:List ByteArray) (ms:List Mdl) (bad:List Dia),SelM ms->SelM (zbj l i ns ms bad).1.2
 |[],i,ns,ms,bad,h=>by rw[zbj];exact h
 |s::l,i,ns,ms,bad,h=>by
  rw[zbj]
  refine zl7 l _ _ _ _ fun m hm=>?_
  rcases List.mem_append.1 hm with hm|hm
  ·exact h m hm
  ·rw[List.mem_singleton.1 hm];exact zvm s.2
theorem zwI(l:List (ByteArray × ByteArray)):SelM (zeB l).1.mods:=by
 have h0:SelM noL.mods:=fun m hm=>by cases hm
 have hg:SelM (zbQ l).1.2:=by
  unfold zbQ
  split
  ·intro m hm;cases hm
  ·exact zl7 l 0 [] [] [] fun m hm=>by cases hm
 unfold zeB
 simp only
 repeat' split
 all_goals first|exact h0|exact hg
theorem zuO{L:Lnk}(hG:LinkG L)(hs:SelM L.mods){m k:Int}(h:EntOk L ⟨bs [],m,k⟩):selN (decAt L m k).body:=by
 obtain⟨mn,kn,M,e1,e2,g1,g2,_⟩:=zfm hG.good h
 exact hs M (List.mem_of_getElem? g1) _ (List.mem_of_getElem? g2)
section
variable {M G:Nat}
theorem zAh{L:Lnk}(hG:LinkG L)(hs:SelM L.mods){x:Ist}(hx:EntOk L ⟨bs [],x.module,x.decl⟩)(s:CS):
  (s.sites.length<=(funC L x s).sites.length/\s.tab.length<=(funC L x s).tab.length/\(funC L x s).funs.length=s.funs.length+1)/\
  ((funC L x s).bad=[]->s.bad=[]/\((funC L x s).sites.length<=M->(funC L x s).tab.length<=G->(∀f,f∈s.funs->okC M G f.body)->∀f,f∈(funC L x s).funs->okC M G f.body)):=by
 have hd:=zuO hG hs hx
 have f0:fb (startC L x s)=fb s:=rfl
 have k0:(startC L x s).sites=s.sites/\(startC L x s).tab=s.tab:=⟨rfl,rfl⟩
 unfold funC
 unfold startC at f0 k0
 simp only
 generalize decAt L x.module x.decl=d at*
 generalize ({s with module:=x.module,vars:=d.vars.map (·.1),wth:=x.types,e:=0}:CS)=s0 at*
 have f1:=zdu (d.types.getD 0 noT) d.line d.col s0
 have r1:=zdd (M:=M) (G:=G) (d.types.getD 0 noT) d.line d.col s0
 generalize zas (d.types.getD 0 noT) d.line d.col s0=a at*
 have f2:=zdu (d.types.getD 1 noT) d.line d.col a.2
 have r2:=zdd (M:=M) (G:=G) (d.types.getD 1 noT) d.line d.col a.2
 generalize zas (d.types.getD 1 noT) d.line d.col a.2=b at*
 obtain⟨T,hT⟩:∃T,(if b.2.e=0 then zbf (fnT a.1 b.1) d.line d.col b.2 else(fnT a.1 b.1,b.2))=T:=⟨_,rfl⟩
 have p3:fb T.2=fb b.2/\Res M G b.2 True T.2:=by
  rw[<-hT]
  split
  ·exact⟨zkA _ _ _ _,(zmn _ _ _ _).imp fun _=>trivial⟩
  ·exact⟨rfl,.ret trivial⟩
 rw[hT]
 clear hT
 obtain⟨S,hS⟩:∃S,(if x.module=L.main.module/\x.decl=L.main.decl/\zfQ (bT 1) a.1=false then zaL d.line d.col 14 T.2 else T.2)=S:=⟨_,rfl⟩
 have p4:fb S=fb T.2/\Res M G T.2 True S:=by
  rw[<-hS]
  split
  ·exact⟨znI _ _ _ _,.fail (by decide)⟩
  ·exact⟨rfl,.ret trivial⟩
 rw[hS]
 clear hS
 have f5:=zkB L d.body [(d.param,a.1)] S
 have r5:=zst (M:=M) (G:=G) L d.body hd [(d.param,a.1)] S
 generalize zao L d.body [(d.param,a.1)] S=y at*
 have f6:=zjR y.1.1 y.1.2 b.1 d.body.line d.body.col y.2
 have r6:=zde (M:=M) (G:=G) y.1.1 y.1.2 b.1 d.body.line d.body.col y.2
 generalize zaA y.1.1 y.1.2 b.1 d.body.line d.body.col y.2=z at*
 have f:fb z.2=fb s:=by rw[f6,f5,p4.1,p3.1,f2,f1,f0]
 have g1:z.2.funs=s.funs:=congrArg (·.1) f
 have g2:z.2.bad=s.bad:=congrArg (·.2) f
 have r:=((r1.bind r2).bind (p3.2.bind p4.2)).bind (r5.bind r6)
 have r:=r.imp fun h=>h.2.2 (h.2.1 fun v hv=>by rw[List.mem_singleton.1 hv];exact h.1.1.1).1 (h.2.1 fun v hv=>by rw[List.mem_singleton.1 hv];exact h.1.1.1).2 h.1.1.2
 rw[<-k0.1,<-k0.2]
 generalize (if 0<x.types.length then zcl x.types 0 (L.names.getD x.module.toNat (bs [])++bs [46]++d.name)++bs [93]else zcl x.types 0 (L.names.getD x.module.toNat (bs [])++bs [46]++d.name))=nm
 split
 ·exact⟨⟨r.1.sites,r.1.tab,by simp[g1]⟩,fun h=>absurd h (by simp)⟩
 ·rename_i q
  refine⟨⟨r.1.sites,r.1.tab,by simp[g1]⟩,fun h=>⟨by rw[<-g2];exact h,fun h1 h2 h3 f hf=>?_⟩⟩
  have hf:f∈z.2.funs++[(⟨nm,T.1,z.1⟩:Fun)]:=hf
  rw[g1]at hf
  rcases List.mem_append.1 hf with hf|hf
  ·exact h3 f hf
  ·rw[List.mem_singleton.1 hf]
   exact r.2 (by simpa using q) h1 h2
theorem zuP{L:Lnk}(hG:LinkG L)(hs:SelM L.mods):∀(n i:Nat) (s:CS),i+n<=257->TOk L s i->
  (s.sites.length<=(funsC L n i s).sites.length/\s.tab.length<=(funsC L n i s).tab.length)/\
  ((funsC L n i s).bad=[]->s.bad=[]/\((funsC L n i s).sites.length<=M->(funsC L n i s).tab.length<=G->(∀f,f∈s.funs->okC M G f.body)->∀f,f∈(funsC L n i s).funs->okC M G f.body))/\
  (i+n=257->s.funs.length=i->(funsC L n i s).tab.length<=(funsC L n i s).funs.length)
 |0,i,s,hi,h=>by
  rw[funsC]
  exact⟨⟨Nat.le_refl _,Nat.le_refl _⟩,fun e=>⟨e,fun _ _ h=>h⟩,fun e1 e2=>by have:=h.tab;omega⟩
 | n+1,i,s,hi,h=>by
  rw[funsC]
  split
  ·rename_i q
   have hm:s.tab.getD i ⟨0,0,[]⟩∈s.tab:=by
    rw[List.getD_eq_getElem?_getD,List.getElem?_eq_getElem q]
    exact List.getElem_mem q
   have h1:=h.ist _ hm
   have k:=zAh (M:=M) (G:=G) hG hs h1.1 s
   have r:=zuP hG hs n (i+1) _ (by omega) (fun_keep hG h1.1 h1.2 (by omega) h)
   refine⟨⟨Nat.le_trans k.1.1 r.1.1,Nat.le_trans k.1.2.1 r.1.2⟩,fun e=>?_,fun e1 e2=>r.2.2 (by omega) (by rw[k.1.2.2];omega)⟩
   have r2:=r.2.1 e
   have k2:=k.2 r2.1
   exact⟨k2.1,fun a b hf=>r2.2 a b (k2.2 (Nat.le_trans r.1.1 a) (Nat.le_trans r.1.2 b) hf)⟩
  ·rename_i q
   exact⟨⟨Nat.le_refl _,Nat.le_refl _⟩,fun e=>⟨e,fun _ _ h=>h⟩,fun e1 e2=>by omega⟩
end
theorem zpD{L:Lnk}(hG:LinkG L):∀(n i:Nat) (s:CS),i+n<=257->TOk L s i->(funsC L n i s).sites.length<=1000000000
 |0,i,s,hi,h=>by rw[funsC];have:=h.sites;omega
 | n+1,i,s,hi,h=>by
  rw[funsC]
  split
  ·rename_i q
   have hm:s.tab.getD i ⟨0,0,[]⟩∈s.tab:=by
    rw[List.getD_eq_getElem?_getD,List.getElem?_eq_getElem q]
    exact List.getElem_mem q
   have h1:=h.ist _ hm
   exact zpD hG n (i+1) _ (by omega) (fun_keep hG h1.1 h1.2 (by omega) h)
  ·have:=h.sites;omega
structure PrgK (p:Prg):Prop where
 good:PrgG p
 ok:∀f,f∈p.funs->okC p.sites.length p.funs.length f.body
 sites:p.sites.length<=1000000000
theorem zuQ{M G G':Nat}(h:G<=G'):∀(n:Nat) (c:Cor),csz c<=n->okC M G c->okC M G' c
 |0,.mk _ _ _ _ _ _ _ ks,e,_=>by rw[csz]at e;omega
 | n +1,.mk k _ _ _ ns ts _ ks,e,hc=>by
  rw[csz]at e
  rw[okC]at hc⊢
  refine⟨?_,?_⟩
  ·have:=hc.1
   unfold shC at this⊢
   rcases this with h|h|h|h|h|h|h|h|h|h
   ·exact .inl h
   ·exact .inr (.inl h)
   ·exact .inr (.inr (.inl (by omega)))
   ·exact .inr (.inr (.inr (.inl h)))
   ·exact .inr (.inr (.inr (.inr (.inl h))))
   ·exact .inr (.inr (.inr (.inr (.inr (.inl h)))))
   ·exact .inr (.inr (.inr (.inr (.inr (.inr (.inl h))))))
   ·exact .inr (.inr (.inr (.inr (.inr (.inr (.inr (.inl h)))))))
   ·exact .inr (.inr (.inr (.inr (.inr (.inr (.inr (.inr (.inl h))))))))
   ·exact .inr (.inr (.inr (.inr (.inr (.inr (.inr (.inr (.inr h))))))))
  ·have key:∀l:List Cor,cszs l<=n->okCs M G l->okCs M G' l:=fun l=>by
    induction l with
    |nil=>intro _ _;trivial
    |cons c l ih=>
     intro e h
     rw[cszs]at e
     rw[okCs]at h⊢
     exact⟨zuQ (by assumption) n c (by omega) h.1,ih (by omega) h.2⟩
   exact key ks (by omega) hc.2
theorem zrv{l:List (ByteArray × ByteArray)}(h:(programP l).2=true):PrgK (programP l).1:=by
 have hg:=programP_good l
 unfold programP at h hg⊢
 split at h
 ·cases h
 rename_i q1
 rw[if_neg q1]at hg⊢
 simp only at h hg⊢
 split at h
 ·cases h
 rename_i q2
 rw[if_neg q2]at hg⊢
 have hG:=zjb l (by omega)
 have hs:=zwI l
 generalize (zeB l).1=L at*
 have h0:=zlP L.mods 0 cs0 (by simp) (cs0_ok L)
 have hf0:(seedM L L.mods 0 cs0).1.funs=[]:=by rw[seedM_funs];try rfl
 unfold checkP at h hg⊢
 simp only at h hg⊢
 by_cases q3:0<(seedM L L.mods 0 cs0).2.length
 ·rw[if_pos q3]at h;simp at h;rw[h]at q3;simp at q3
 rw[if_neg q3]at h hg⊢
 by_cases q4:0<(funsC L 257 0 (seedM L L.mods 0 cs0).1).bad.length
 ·rw[if_pos q4]at h;simp at h;rw[h]at q4;simp at q4
 rw[if_neg q4]at h hg⊢
 have hb:(funsC L 257 0 (seedM L L.mods 0 cs0).1).bad=[]:=List.length_eq_zero_iff.1 (by omega)
 have hk:=zuP (M:=(funsC L 257 0 (seedM L L.mods 0 cs0).1).sites.length) (G:=(funsC L 257 0 (seedM L L.mods 0 cs0).1).tab.length) hG hs 257 0 _ (by omega) h0
 have ht:=zpD hG 257 0 _ (by omega) h0
 refine⟨hg,fun f hf=>?_,ht⟩
 have hl:=hk.2.2 (by omega) (by rw[hf0];rfl)
 exact zuQ hl _ _ (Nat.le_refl _) ((hk.2.1 hb).2 (Nat.le_refl _) (Nat.le_refl _) (fun f hf=>by rw[hf0]at hf;cases hf) f hf)
end Go.Gr
namespace Go.Gr
open Go.Abs Go.Proofs
def inP(n:Nat)(C:Coe):Prop:=(∀x,x∈C.fields->inN n x)/\∀x,x∈C.fn->inN n x
theorem inP.put{n:Nat}{C:Coe}(h:inP n C)(k:ByteArray){d:Coe}(hd:inN n d):inP n (putR C k d):=by
 unfold putR
 split
 ·exact h
 ·refine⟨fun x hx=>?_,h.2⟩
  rcases List.mem_append.1 hx with hx|hx
  ·exact h.1 x hx
  ·rw[List.mem_singleton.1 hx];exact hd
section
variable {n:Nat} {v:Typ->Typ->Int->Coe} (hv:∀x y l,inN n (v x y l))
include hv
theorem inP_A(lb:Int):∀(ns:List ByteArray) (ks:List Typ) (C:Coe),inP n C->inP n (mkA v lb ns ks C)
 |[],_,C,h=>by rw[mkA];exact h;intros;contradiction
 |_::_,[],C,h=>by rw[mkA];exact h;intros;contradiction
 |k::ns,t::ks,C,h=>by rw[mkA];exact inP_A lb ns ks _ (h.put k (hv _ _ _))
theorem inP_B(m:Prt)(lb:Int):∀(ns:List ByteArray) (ks:List Typ) (C:Coe),inP n C->inP n (mkB v m lb ns ks C)
 |[],_,C,h=>by rw[mkB];exact h;intros;contradiction
 |_::_,[],C,h=>by rw[mkB];exact h;intros;contradiction
 | k::ns,t::ks,C,h=>by
  rw[mkB]
  have h1:inP n (if(zaz m.t k).2=false then zbt C k lb else C):=by
   split
   ·exact h
   ·exact h
  refine inP_B m lb ns ks _ ?_
  split
  ·exact h1.put k (hv _ _ _)
  ·exact h1
theorem zys(R:List Prt)(lb:Int):∀(L:List Prt) (C:Coe),inP n C->inP n (zci v R lb L C)
 |[],C,h=>by rw[zci];exact h
 | m::L,C,h=>by
  rw[zci]
  refine zys R lb L _ ?_
  unfold zdr
  split
  ·exact h
  split
  ·refine⟨h.1,fun x hx=>?_⟩
   have hx:x∈funCZ _ _:=hx
   unfold funCZ at hx
   split at hx
   ·cases hx
   ·rcases List.mem_cons.1 hx with e|hx
    ·rw[e];exact hv _ _ _
    ·rw[List.mem_singleton.1 hx];exact hv _ _ _
  split
  ·unfold mkR
   split
   ·split
    ·exact h
    ·exact inP_A hv _ _ _ _ h
   ·exact inP_B hv _ _ _ _ _ h
  ·exact h
end
theorem in_made:∀(n:Nat) (a b:Typ) (lb:Int),inN n (zc6 n a b lb)
 |0,a,b,lb=>rfl
 |n+1,a,b,lb=>by
  rw[zc6]
  split
  ·exact zmS _
  ·exact zys (fun x y l=>in_made n x y l) _ _ _ _ ⟨fun x hx=>(by cases hx),fun x hx=>(by cases hx)⟩
def coK(d:Coe)(k:Cor):Cor:=.mk 22 0 (bs []) [] [] [] [d] [k]
mutual
def zbi:Cor->Cor
 |.mk k n t is ns ts cs ks=>if k=21 then .mk 22 0 (bs []) [] [] [] [zc6 32 (ts.getD 0 noT) (ts.getD 1 noT) (2*n+2)] (zbT ks)else .mk k n t is ns ts cs (zbT ks)
def zbT:List Cor->List Cor
 |[]=>[]
 |c::l=>zbi c::zbT l
end
theorem ze0:∀l:List Cor,zbT l=l.map zbi
 |[]=>rfl
 |c::l=>by rw[zbT,ze0 l];try rfl
theorem zu2(c:Cor):zbi c=if c.kind=21 then .mk 22 0 (bs []) [] [] [] [zc6 32 (c.types.getD 0 noT) (c.types.getD 1 noT) (2*c.n+2)] (c.kids.map zbi)else .mk c.kind c.n c.text c.ints c.names c.types c.cos (c.kids.map zbi):=by
 cases c;rw[zbi,ze0];try rfl
def tagK(c:Cor):Int:=if c.kind=0\/c.kind=20 then 2 else if c.kind=1 then 3 else if c.kind=2 then 1 else if c.kind=3 then 0 else if c.kind=5\/c.kind=6 then 5 else -1
def idleC(d:Coe)(k:Cor):Bool:=zaM d idC||(decide (0<=tagK k)&&decide (tagZ d (tagK k).toNat=0)&&(decide (tagK k≠5)||decide (d.fn.length=0)))
def zif(d:Coe)(k:Cor):Cor:=
 let d':=if k.kind=22 then compN 32 (k.cos.getD 0 idC) d else d
 let k':=if k.kind=22 then k.kids.getD 0 noC else k
 if idleC d' k'=true then k' else coK d' k'
mutual
def zbU:Cor->Cor
 |.mk k n t is ns ts cs ks=>if k=22 then zif (cs.getD 0 idC) ((zjq ks).getD 0 noC)else .mk k n t is ns ts cs (zjq ks)
def zjq:List Cor->List Cor
 |[]=>[]
 |c::l=>zbU c::zjq l
end
theorem zig:∀l:List Cor,zjq l=l.map zbU
 |[]=>rfl
 |c::l=>by rw[zjq,zig l];try rfl
theorem zwZ(c:Cor):zbU c=if c.kind=22 then zif (c.cos.getD 0 idC) ((c.kids.map zbU).getD 0 noC)else .mk c.kind c.n c.text c.ints c.names c.types c.cos (c.kids.map zbU):=by
 cases c;rw[zbU,zig];try rfl
def ze1(trim:Bool)(c:Cor):Cor:=if trim=true then zbU (zbi c)else zbi c
def zmi(trim:Bool)(p:Prg):Prg:=⟨p.funs.map fun f=>⟨f.name,f.type,ze1 trim f.body⟩,p.main,p.sites⟩
def zch(B:Nat)(d:Coe):Prop:=mayC d=true/\smC B d/\inN 32 d
mutual
def pcC:Cor->Prop
 |.mk k _ _ _ _ _ cs ks=>k≠21/\(k=22->(∃d,cs=[d]/\zch 16 d)/\ks.length=1)/\pcCs ks
def pcCs:List Cor->Prop
 |[]=>True
 |c::l=>pcC c/\pcCs l
end
mutual
def tcC(B:Nat):Cor->Prop
 |.mk k _ _ _ _ _ cs ks=>k≠21/\(k=22->∃d x,cs=[d]/\ks=[x]/\x.kind≠22/\zch B d)/\tcCs B ks
def tcCs(B:Nat):List Cor->Prop
 |[]=>True
 |c::l=>tcC B c/\tcCs B l
end
theorem zih:∀{l:List Cor},pcCs l↔∀x,x∈l->pcC x
 |[]=>by simp[pcCs]
 |c::l=>by simp[pcCs,zih (l:=l)]
theorem zii{B:Nat}:∀{l:List Cor},tcCs B l↔∀x,x∈l->tcC B x
 |[]=>by simp[tcCs]
 |c::l=>by simp[tcCs,zii (l:=l)]
theorem zu3{a b:Typ}{n:Int}(ha:isNR a=true)(hb:isNR b=true)(hn:0<=n):zch 16 (zc6 32 a b (2*n+2)):=by
 have h:=zqO 32 a b (2*n+2) (by omega) (zeP ha) (zeP hb)
 exact⟨h.1,h.2,in_made _ _ _ _⟩
theorem zch.le{A B:Nat}(hAB:A<=B){d:Coe}(h:zch A d):zch B d:=⟨h.1,zpY hAB 32 h.2.2 h.2.1,h.2.2⟩
theorem zch.comp{A B:Nat}(hAB:2<=A+B){c d:Coe}(h:zch A c)(k:zch B d):zch (A+B) (compN 32 c d):=⟨comp_may _ _ _ h.1 k.1,(zic hAB 32 h.2.2 k.2.2 h.1 k.1 h.2.1 k.2.1).1,zky _ h.1 k.1 h.2.2 k.2.2⟩
variable {M G:Nat}
theorem shC.inv{n:Int}{ns:List ByteArray}{ts:List Typ}{q:Nat}(h:shC M G 21 n ns ts q):q=1/\0<=n/\n<M/\∃a b,ts=[a,b]/\isNR a=true/\isNR b=true:=by
 simpa[shC]using h
theorem shC.n22{n:Int}{ns:List ByteArray}{ts:List Typ}{q:Nat}(h:shC M G 22 n ns ts q):False:=by
 simp[shC]at h
mutual
theorem zlu:∀c:Cor,okC M G c->pcC (zbi c)
 | .mk k n t is ns ts cs ks,h=>by
  rw[okC]at h
  have hk:=zoi ks h.2
  have hl:(zbT ks).length=ks.length:=by rw[ze0];simp
  rw[zbi]
  split
  ·rename_i q
   subst q
   obtain⟨h2,h3,h4,a,b,e,na,nb⟩:=h.1.inv
   subst e
   rw[pcC]
   exact⟨by decide,fun _=>⟨⟨_,rfl,zu3 na nb h3⟩,by omega⟩,hk⟩
  ·rename_i q
   rw[pcC]
   refine⟨q,fun e=>?_,hk⟩
   subst e
   exact h.1.n22.elim
theorem zoi:∀l:List Cor,okCs M G l->pcCs (zbT l)
 |[],_=>trivial
 |c::l,h=>by rw[okCs]at h;rw[zbT,pcCs];exact⟨zlu c h.1,zoi l h.2⟩
end
mutual
theorem zjr:∀c:Cor,csz (zbi c)=csz c
 |.mk k n t is ns ts cs ks=>by
  have:=zmj ks
  rw[zbi]
  split<;>simp only[csz]<;>omega
theorem zmj:∀l:List Cor,cszs (zbT l)=cszs l
 |[]=>rfl
 |c::l=>by rw[zbT,cszs,cszs,zjr c,zmj l]
end
mutual
theorem zlv:∀(c:Cor) (m:Nat),wfC m c->wfC m (zbi c)
 | .mk k n t is ns ts cs ks,m,h=>by
  rw[wfC]at h
  obtain⟨h23,h18,h21,h4,h5,hk⟩:=h
  have hs:=zjs ks m k 0 hk
  have hl:(zbT ks).length=ks.length:=by rw[ze0];simp
  rw[zbi]
  split
  ·rename_i q
   subst q
   have hs:wfCs m 22 (zbT ks) 0:=by
    have:=zjs ks m 22 0 (by
     have hl1:=(h21 rfl).1
     match ks,hl1,hk with
     |[x],_,hk=>simpa[wfCs]using hk)
    exact this
   rw[wfC]
   exact⟨by decide,fun e=>absurd e (by decide),fun e=>absurd e (by decide),fun e=>absurd e (by decide),fun e=>absurd e (by decide),hs⟩
  ·rw[wfC]
   refine⟨h23,fun e=>by rw[hl];exact h18 e,fun e=>by rw[hl];exact h21 e,fun e=>?_,fun e=>by rw[hl];exact h5 e,hs⟩
   obtain⟨a,b,c⟩:=h4 e
   subst c
   exact⟨a,b,rfl⟩
theorem zjs:∀(l:List Cor) (m:Nat) (k:Int) (i:Nat),wfCs m k l i->wfCs m k (zbT l) i
 |[],m,k,i,_=>trivial
 |c::l,m,k,i,h=>by
  rw[wfCs]at h
  rw[zbT,wfCs]
  exact⟨zlv c _ h.1,zjs l m k (i+1) h.2⟩
end
structure TK (B m:Nat) (s:Nat) (c:Cor):Prop where
 tc:tcC B c
 wf:wfC m c
 sz:csz c<=s
theorem zp4{A B:Nat}(hAB:A<=B):∀(n:Nat) (c:Cor),csz c<=n->tcC A c->tcC B c
 |0,c,h,_=>by have:=zbZ c;omega
 | n+1,.mk k _ _ _ _ _ cs ks,h,hc=>by
  rw[tcC]at hc⊢
  rw[csz]at h
  refine⟨hc.1,fun e=>?_,zii.2 fun x hx=>?_⟩
  ·obtain⟨d,x,h1,h2,h3,h4⟩:=hc.2.1 e
   exact⟨d,x,h1,h2,h3,h4.le hAB⟩
  ·obtain⟨j,hj,rfl⟩:=List.getElem_of_mem hx
   have:=zec hj
   exact zp4 hAB n _ (by omega) (zii.1 hc.2.2 _ (List.getElem_mem hj))
theorem zw0{B m s:Nat}{d:Coe}{k:Cor}(hd:zch 16 d)(h:TK B m s k):TK (B+16) m (s+1) (zif d k):=by
 have key:∀(d':Coe) (k':Cor),zch (B+16) d'->k'.kind≠22->TK (B+16) m s k'->TK (B+16) m (s+1) (if idleC d' k'=true then k' else coK d' k'):=fun d' k' gd nk tk=>by
  split
  ·exact⟨tk.tc,tk.wf,by have:=tk.sz;omega⟩
  ·refine⟨?_,?_,?_⟩
   ·unfold coK
    rw[tcC]
    exact⟨by decide,fun _=>⟨d',k',rfl,rfl,nk,gd⟩,tk.tc,trivial⟩
   ·unfold coK
    rw[wfC]
    exact⟨by decide,fun e=>absurd e (by decide),fun e=>absurd e (by decide),fun e=>absurd e (by decide),fun e=>absurd e (by decide),by simpa[wfCs]using tk.wf⟩
   ·have:=tk.sz
    simp only[coK,csz,cszs];omega
 have h':TK (B+16) m s k:=⟨zp4 (by omega) _ k (Nat.le_refl _) h.tc,h.wf,h.sz⟩
 unfold zif
 simp only
 by_cases q:k.kind=22
 ·rw[if_pos q,if_pos q]
  obtain⟨k0,n,t,is,ns,ts,cs,ks⟩:=k
  have q:k0=22:=q
  subst q
  have ht:=h.tc
  rw[tcC]at ht
  obtain⟨e,x,h1,h2,h3,h4⟩:=ht.2.1 rfl
  subst h1;subst h2
  refine key _ _ (h4.comp (by omega) hd) h3 ⟨?_,?_,?_⟩
  ·have:=h'.tc
   rw[tcC,tcCs]at this
   exact this.2.2.1
  ·have:=h.wf
   rw[wfC,wfCs]at this
   show wfC m x
   simpa using this.2.2.2.2.2.1
  ·have:=h.sz
   rw[csz,cszs]at this
   show csz x<=s
   omega
 ·rw[if_neg q,if_neg q]
  exact key _ _ (hd.le (by omega)) q h'
theorem zkn:∀(n:Nat) (c:Cor) (m:Nat),csz c<=n->pcC c->wfC m c->TK (16*csz c) m (csz c) (zbU c)
 |0,c,m,h,_,_=>by have:=zbZ c;omega
 | n + 1,c,m,h,hp,hw=>by
  have hz:=zbZ c
  obtain⟨k,nn,t,is,ns,ts,cs,ks⟩:=c
  rw[pcC]at hp
  rw[wfC]at hw
  simp only[Cor.kids]at hz
  have hk:∀(j:Nat) (hj:j<ks.length) (m':Nat),wfC m' ks[j]->TK (16*csz ks[j]) m' (csz ks[j]) (zbU ks[j]):=fun j hj m' hw'=>by
   have:=zec hj
   exact zkn n _ m' (by omega) (zih.1 hp.2.2 _ (List.getElem_mem hj)) hw'
  rw[zbU]
  by_cases q:k=22
  ·rw[if_pos q]
   subst q
   obtain⟨⟨d,h1,h2⟩,h3⟩:=hp.2.1 rfl
   subst h1
   match ks,h3,hk,hw,hz with
   |[x],_,hk,hw,hz=>
    have hx:=hk 0 (by simp) m (by have:=hw.2.2.2.2.2;rw[wfCs]at this;simpa using this.1)
    simp only[List.getElem_cons_zero]at hx
    have hz:csz (Cor.mk 22 nn t is ns ts [d] [x])=csz x+1:=by simp only[csz,cszs];omega
    rw[hz]
    have:=zw0 h2 hx
    exact⟨by rw[Nat.mul_add];exact this.tc,this.wf,this.sz⟩
  ·rw [if_neg q,zig]
   refine⟨?_,?_,?_⟩
   ·rw[tcC]
    refine⟨hp.1,fun e=>absurd e q,zii.2 fun x hx=>?_⟩
    obtain⟨y,hy,rfl⟩:=List.mem_map.1 hx
    obtain⟨j,hj,rfl⟩:=List.getElem_of_mem hy
    have:=zec hj
    obtain⟨m',hw'⟩:∃m',wfC m' ks[j]:=by
     by_cases q5:k=5
     ·subst q5
      have hl:=hw.2.2.2.2.1 rfl
      match ks,hl,hw,j,hj with
      |[x],_,hw,0,_=>exact⟨m+1,by have:=hw.2.2.2.2.2;rw[wfCs]at this;simpa using this.1⟩
     ·exact⟨_,zfW q5 hj hw.2.2.2.2.2⟩
    exact zp4 (by rw[hz];omega) _ _ (Nat.le_refl _) (hk j hj m' hw').tc
   ·have hs:∀(l:List Cor) (i j:Nat),ks.drop j=l->wfCs m k l i->wfCs m k (l.map zbU) i:=fun l=>by
     induction l with
     |nil=>intro i j _ _;trivial
     | cons y l ih=>
      intro i j e hw
      have hj:j<ks.length:=by
       rcases Nat.lt_or_ge j ks.length with z|z
       ·exact z
       ·rw[List.drop_eq_nil_of_le z]at e;cases e
      rw[List.drop_eq_getElem_cons hj]at e
      injection e with e1 e2
      rw[wfCs]at hw
      rw[List.map_cons,wfCs]
      refine⟨?_,ih (i+1) (j+1) e2 hw.2⟩
      rw[<-e1]at hw⊢
      exact(hk j hj _ hw.1).wf
    rw[wfC]
    refine⟨hw.1,fun e=>by simpa using hw.2.1 e,fun e=>absurd e hp.1,fun e=>?_,fun e=>by simpa using hw.2.2.2.2.1 e,hs ks 0 0 (by simp) hw.2.2.2.2.2⟩
    obtain⟨a,b,c⟩:=hw.2.2.2.1 e
    subst c
    exact⟨a,b,rfl⟩
   ·have hs:∀(l:List Cor) (j:Nat),ks.drop j=l->cszs (l.map zbU)<=cszs l:=fun l=>by
     induction l with
     |nil=>intro j _;exact Nat.le_refl _
     | cons y l ih=>
      intro j e
      have hj:j<ks.length:=by
       rcases Nat.lt_or_ge j ks.length with z|z
       ·exact z
       ·rw[List.drop_eq_nil_of_le z]at e;cases e
      rw[List.drop_eq_getElem_cons hj]at e
      injection e with e1 e2
      have:=ih (j+1) e2
      have h2:csz (zbU y)<=csz y:=by
       rw[<-e1]
       obtain⟨m',hw'⟩:∃m',wfC m' ks[j]:=by
        by_cases q5:k=5
        ·subst q5
         have hl:=hw.2.2.2.2.1 rfl
         match ks,hl,hw,j,hj with
         |[x],_,hw,0,_=>exact⟨m+1,by have:=hw.2.2.2.2.2;rw[wfCs]at this;simpa using this.1⟩
        ·exact⟨_,zfW q5 hj hw.2.2.2.2.2⟩
       exact(hk j hj m' hw').sz
      rw[List.map_cons,cszs,cszs];omega
    have:=hs ks 0 (by simp)
    simp only[csz]
    omega
end Go.Gr
