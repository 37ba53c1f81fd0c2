/- Texts of ours, joined and written short by a program of ours. -/
import Derived.Test.YtlfjlokfciejnaaGreatDoorCJ15
set_option maxRecDepth 20000
set_option maxHeartbeats 4000000
set_option linter.unusedVariables false
set_option linter.unusedSimpArgs false
namespace Go.Gr
open Go.Abs Go.Proofs List
theorem Jm(a b:fI):Op.bytesLess a.data.toList b.data.toList=decide (jY a b):=Jf _ _
structure zH (a b:List fI) (i k:Nat) (l:List fI):Prop where
 hi:i<=a.length
 hk:k<=b.length
 len:l.length<=i+k
 rises:l.Pairwise jY
 mem:∀x,x∈l↔x∈a.take i\/x∈b.take k
 la:∀x,x∈l->∀j (h:j<a.length),i<=j->jY x a[j]
 lb:∀x,x∈l->∀j (h:j<b.length),k<=j->jY x b[j]
theorem Eg{l:List fI}(h:l.Pairwise jY){i j:Nat}(hj:j<l.length)(hij:i<j):jY (l[i]'(by omega)) l[j]:=(bZ.1 h) i j (by omega) hj hij
theorem zH.left{a b l:List fI}{i k:Nat}(ha:a.Pairwise jY)(hb:b.Pairwise jY)(M:zH a b i k l)(h:i<a.length)(hl:∀(hk:k<b.length),jY a[i] b[k]):zH a b (i+1) k (l++[a[i]]) where
 hi:=h
 hk:=M.hk
 len:=by have:=M.len;simp;omega
 rises:=bU.2 ⟨M.rises,by simp,λx hx y hy=>by rw[aK.1 hy];exact M.la x hx i h (aQ _)⟩
 mem x:=by rw[aM,M.mem,Gs h,aK];exact⟨λh=>h.elim (λh=>h.elim (λh=>.inl (.inl h)) .inr) (λh=>.inl (.inr h)),λh=>h.elim (λh=>h.elim (λh=>.inl (.inl h)) .inr) (λh=>.inl (.inr h))⟩
 la x hx j hj hij:=by
  rcases aM.1 hx with q|q
  ·exact M.la x q j hj (by omega)
  ·rw[aK.1 q];exact Eg ha hj (by omega)
 lb x hx j hj hkj:=by
  rcases aM.1 hx with q|q
  ·exact M.lb x q j hj hkj
  ·rw[aK.1 q];have h1:=hl (by omega);by_cases e:k=j
   ·subst e;exact h1
   ·exact xm h1 (Eg hb hj (by omega))
theorem zH.right{a b l:List fI}{i k:Nat}(ha:a.Pairwise jY)(hb:b.Pairwise jY)(M:zH a b i k l)(h:k<b.length)(hl:∀(hi:i<a.length),jY b[k] a[i]):zH a b i (k+1) (l++[b[k]]) where
 hi:=M.hi
 hk:=h
 len:=by have:=M.len;simp;omega
 rises:=bU.2 ⟨M.rises,by simp,λx hx y hy=>by rw[aK.1 hy];exact M.lb x hx k h (aQ _)⟩
 mem x:=by rw[aM,M.mem,Gs h,aK,or_assoc]
 la x hx j hj hij:=by
  rcases aM.1 hx with q|q
  ·exact M.la x q j hj hij
  ·rw[aK.1 q];have h1:=hl (by omega);by_cases e:i=j
   ·subst e;exact h1
   ·exact xm h1 (Eg ha hj (by omega))
 lb x hx j hj hkj:=by
  rcases aM.1 hx with q|q
  ·exact M.lb x q j hj (by omega)
  ·rw[aK.1 q];exact Eg hb hj (by omega)
theorem zH.both{a b l:List fI}{i k:Nat}(ha:a.Pairwise jY)(hb:b.Pairwise jY)(M:zH a b i k l)(h:i<a.length)(h':k<b.length)(e:a[i]=b[k]):zH a b (i+1) (k+1) (l++[b[k]]) where
 hi:=h
 hk:=h'
 len:=by have:=M.len;simp;omega
 rises:=bU.2 ⟨M.rises,by simp,λx hx y hy=>by rw[aK.1 hy];exact M.lb x hx k h' (aQ _)⟩
 mem x:=by
  rw[aM,M.mem,Gs h,Gs h',aK,e];exact⟨λh=>h.elim (λh=>h.elim (λh=>.inl (.inl h)) (λh=>.inr (.inl h))) (λh=>.inr (.inr h)),λh=>h.elim (λh=>h.elim (λh=>.inl (.inl h)) .inr) (λh=>h.elim (λh=>.inl (.inr h)) .inr)⟩
 la x hx j hj hij:=by
  rcases aM.1 hx with q|q
  ·exact M.la x q j hj (by omega)
  ·rw[aK.1 q,<-e];exact Eg ha hj (by omega)
 lb x hx j hj hkj:=by
  rcases aM.1 hx with q|q
  ·exact M.lb x q j hj (by omega)
  ·rw[aK.1 q];exact Eg hb hj (by omega)
theorem zlG(a b:List fI)(ha:a.Pairwise jY)(hb:b.Pairwise jY)(sa:a.length<=536870912)(sb:b.length<=536870912):
  gu Pg 115 [.one (.sl false 1 (encS a)),.one (.sl false 1 (encS b))] (.one (.sl false 1 (encS (zco (a++b.filter λk=> !decide (k∈a)))))):=by
 have hfin:∀l,zH a b a.length b.length l->l=zco (a++b.filter λk=> !decide (k∈a)):=λl M=>by
  have hnd:(a++b.filter λk=> !decide (k∈a)).Nodup:=by
   refine bX.2 ⟨rT ha,(rT hb).filter _,λx hx y hy e=>?_⟩;simp only[bB,bD,bM]at hy;exact hy.2 (e▸hx)
  refine P9 M.rises (Pb hnd) λx=>?_;rw[M.mem,Gl,bG,bG];simp only[aM,bB,bD,bM];by_cases h:x∈a<;>simp[h]
 refine zkf (by simp) λo c hN hp=>?_;unfold Y7;simp;refine fo [.t 5] ?_;simp
 refine fU iC hp (λx:Nat × Nat × List fI=>zH a b x.1 x.2.1 x.2.2) (λx=>[(6,.c (.d (.int .i64 x.1))),(7,.c (.d (.int .i64 x.2.1))),(5,.c (.msl 1 0 0 x.2.2.length)),(0,.c (.d (.sl false 1 (encS a)))),(1,.c (.d (.sl false 1 (encS b))))])
  (λx=>[.arr 1 ((encS x.2.2).map (·.map .d))]) (λx=>(a.length-x.1)+(b.length-x.2.1)) (0,0,[]) [0] ⟨by simp,by simp,by simp,by simp,by simp,by simp,by simp⟩ (by simp) λ⟨i,k,l⟩ M=>?_
 have m1:=M.hi;have m2:=M.hk;have m3:=M.len;simp only at m1 m2 m3 M;unfold Y6;simp;have ta:∀{l:List fI},(encS l).take l.length=encS l:=aD (by simp);by_cases hi:i<a.length
 ·by_cases hk:k<b.length
  ·have kne:¬((k:Int)=b.length):=by omega
   have hd:jY a[i] b[k]\/a[i]=b[k]\/(jY b[k] a[i]/\¬a[i]=b[k]/\¬jY a[i] b[k]):=by
    by_cases e:a[i]=b[k]
    ·exact .inr (.inl e)
    ·rcases D6 e with q|q
     ·exact .inl q
     ·exact .inr (.inr ⟨q,e,λh=>zl _ (xm h q)⟩)
   rcases hd with q|q|⟨q,q1,q2⟩
   ·have q':=(Jm a[i] b[k]).trans (bz q);simp[hi,hk,kne,aA hi,aA hk,q',ta];refine⟨by decide,by omega,?_⟩;refine fJ (i+1,k,l++[a[i]]) [1] (M.left ha hb hi λ_=>q) (by simp;omega) ?_;simp;exact⟨wI,by rw[aD (by simp)];try simp[encS]⟩
   ·have q':=(Jm a[i] b[k]).trans (bK (by rw[q];exact zl _));simp[hi,hk,kne,aA hi,aA hk,q',ta];refine⟨by decide,by omega,?_⟩;refine⟨by decide,?_⟩;simp only[q,decide_true,zom];refine fo [] ?_;simp;refine fJ (i+1,k+1,l++[b[k]]) [1] (M.both ha hb hi hk q) (by simp;omega) ?_;simp;exact⟨⟨wI,wI⟩,by rw[aD (by simp)];try simp[encS]⟩
   ·have q':=(Jm a[i] b[k]).trans (bK q2);simp[hi,hk,kne,aA hi,aA hk,q',ta];refine⟨by decide,by omega,?_⟩;refine⟨by decide,?_⟩;simp only[q1,decide_false,zon];refine fo [] ?_;simp;refine fJ (i,k+1,l++[b[k]]) [1] (M.right ha hb hk λ_=>q) (by simp;omega) ?_;simp;exact⟨wI,by rw[aD (by simp)];try simp[encS]⟩
  ·have ek:k=b.length:=by omega
   subst ek;simp[hi,aA hi,ta];refine⟨by decide,by omega,?_⟩;refine fJ (i+1,b.length,l++[a[i]]) [1] (M.left ha hb hi λh=>absurd h hk) (by simp;omega) ?_;simp;exact⟨wI,by rw[aD (by simp)];try simp[encS]⟩
 ·have ei:i=a.length:=by omega
  subst ei;by_cases hk:k<b.length
  ·have kne:¬((k:Int)=b.length):=by omega
   simp[hk,kne,aA hk,ta];refine⟨by decide,by omega,by decide,?_⟩;refine fo [] ?_;simp;refine fJ (a.length,k+1,l++[b[k]]) [1] (M.right ha hb hk λh=>absurd h hi) (by simp;omega) ?_;simp;exact⟨wI,by rw[aD (by simp)];try simp[encS]⟩
  ·have ek:k=b.length:=by omega
   subst ek;simp[ta];rw[hfin l M]
theorem ZW(d:gy)(k:fI)(hn:d.names.length=d.fields.length)(hl:d.names.length<=536870912):gu Pg 117 [.agg d.enc,.one (.str k)] (.agg (jy d k).enc):=by
 refine zke (by simp) λo c hN hp=>?_;unfold Y5;simp
 refine fV iC hp PI [5] (λj:Nat=>j<=d.names.length/\qZ (d.names.drop j) (d.fields.drop j) k=jy d k) (λj=>[.c (.d (.int .i64 j))])
  (λ_=>[jq]) (λj=>d.names.length-j) 0 [0] ⟨by simp,by simp[jy]⟩ (by simp[PI]) λj ⟨g1,g2⟩=>?_
 unfold Y4 PI;simp;apply gT<;>intro h
 ·have hj:j<d.names.length:=by simpa using h
  have hj':j<d.fields.length:=by omega
  rw[aF hj,aF hj',qZ]at g2;simp[aA hj,aA hj'];apply gT<;>intro q
  ·have q':k=d.names[j]:=(of_decide_eq_true q).symm;rw[aC q']at g2;simp[g2]
  ·have q':¬k=d.names[j]:=λe=>by rw[e]at q;simp at q
   rw[aB q']at g2;exact fJ (j+1) [0] ⟨by omega,g2⟩ (by omega) (by simp;exact wI)
 ·have hj:j=d.names.length:=by simp at h;omega
  subst hj;refine gp wZ ?_;rw[aO]at g2;simp[qZ]at g2;simp[<-g2]
theorem Jn(a b:gy):gu Pg 112 [.agg a.enc,.agg b.enc] (.one (.sl false 5 ((lM a b).map gy.enc))):=by
 refine zk9 (by simp) λo c hN hp=>?_;unfold Y3;simp;refine gp (Av a) ?_;simp;refine gp (Av b) ?_;simp;refine gT (λh1=>gT (λh2=>?_) (λh2=>?_)) (λh1=>?_)
 ·simp[lM,h1,h2]
 ·simp at h2;simp[lM,h2]
 ·simp at h1;simp[lM,h1]
theorem znK(a b f:D)(N:List fI)(F':List gy)(k:fI)(d:gy)(hd:jX d idC=true):
  MCall Pg 116 [.ag [.d a,.d b,.msl 1 0 0 N.length,.msl 5 1 0 F'.length,.d f],.c (.d (.str k)),.ag (d.enc.map .d)] [.arr 1 ((encS N).map (·.map .d)),.arr 5 ((F'.map gy.enc).map (·.map .d))]
   (.ag [.d a,.d b,.msl 1 0 0 N.length,.msl 5 1 0 F'.length,.d f]) [.arr 1 ((encS N).map (·.map .d)),.arr 5 ((F'.map gy.enc).map (·.map .d))]:=by
 refine PG ⟨by simp,by simp,by simp,by simp,by simp,by simp[live],by simp⟩ λts hts ok hb c hN hp=>?_;obtain⟨t0,t1,rfl⟩:=Yy hts;unfold J9;simp;refine gp (Av d) ?_;simp[hd];exact fQ [0,1] [2,3]
theorem zmJ(a b f:D)(N:List fI)(F':List gy)(k:fI)(d:gy)(hd:jX d idC=false)(h1:N.length<=1073741824)(h2:F'.length<=1073741824):
  MCall Pg 116 [.ag [.d a,.d b,.msl 1 0 0 N.length,.msl 5 1 0 F'.length,.d f],.c (.d (.str k)),.ag (d.enc.map .d)] [.arr 1 ((encS N).map (·.map .d)),.arr 5 ((F'.map gy.enc).map (·.map .d))]
   (.ag [.d a,.d b,.msl 1 2 0 (N++[k]).length,.msl 5 3 0 (F'++[d]).length,.d f]) [.dead,.dead,.arr 1 ((encS (N++[k])).map (·.map .d)),.arr 5 (((F'++[d]).map gy.enc).map (·.map .d))]:=by
 refine PG ⟨by simp,by simp,by simp,by simp,by simp,by simp[live],by simp[live]⟩ λts hts ok hb c hN hp=>?_;obtain⟨t0,t1,rfl⟩:=Yy hts;unfold J9;simp;refine gp (Av d) ?_;simp[hd];refine⟨by omega,by omega,fT [0,1,6,7] [2,3] ?_⟩;simp[encS];exact⟨aD (by simp),aD (by simp)⟩
theorem Pk{c:Ctx}(hp:c.pure){a b:gy}(Ma:May a)(Mb:May b){Q:Exit->St->Prop}{S:St}{g}
  (h0:iM [0,1,2] S ((6,.c (.d (.int .i64 0)))::vw a b) [jq,.arr 1 ((encI lL).map (·.map .d)),.box [.msl 1 1 0 6,.d (.sl true 2 []),.d (.sl true 1 []),.d (.sl true 5 []),.d (.sl true 5 [])]])
  (hQ:∀T,Abs.look T 2=.c (.d (.rp a.enc 0))->Abs.look T 3=.c (.d (.rp b.enc 0))->Abs.look T 4=.c (.ptr 0 0)->Abs.look T 5=.c (.ptr 2 0)->
   Q (.exit 0) ⟨T,hpOf [jq,.arr 1 ((encI (kG a.tags b.tags)).map (·.map .d)),.box [.msl 1 1 0 6,.d (.sl true 2 []),.d (.sl true 1 []),.d (.sl true 5 []),.d (.sl true 5 [])]],3⟩):lU Pg c PN Q g S:=by
 have hL:(kG a.tags b.tags).length=6:=D8 Ma.tags Mb.tags
 refine fU iC hp (λj:Nat=>j<=6) (λj=>(6,.c (.d (.int .i64 j)))::vw a b)
  (λj=>[jq,.arr 1 ((encI (nR (kG a.tags b.tags) j)).map (·.map .d)),.box [.msl 1 1 0 6,.d (.sl true 2 []),.d (.sl true 1 []),.d (.sl true 5 []),.d (.sl true 5 [])]])
  (λj=>6-j) 0 [0,1,2] (by simp) h0 λj h1=>?_
 unfold PN;simp;apply gT<;>intro h
 ·have hj:j<6:=by simp at h;omega
  have hja:j<a.tags.length:=by rw[Ma.tags];exact hj
  have hjb:j<b.tags.length:=by rw[Mb.tags];exact hj
  have hup:(nR (kG a.tags b.tags) j).length=6:=by simp[nR,hL];omega
  have hju:j<(nR (kG a.tags b.tags) j).length:=by omega
  have hset:∀x,x=(kG a.tags b.tags)[j]'(by omega)->(encI (nR (kG a.tags b.tags) j)).set j [.int .i64 x]=encI (nR (kG a.tags b.tags) (j+1)):=λx e=>by
   rw[e,<-Jk,Ph hL hj]
  have hval:(kG a.tags b.tags)[j]'(by omega)=if a.tags[j]=0 then b.tags[j]else a.tags[j]:=by simp[kG]
  simp[aA hja,aA hjb,aA hju];refine⟨by omega,by decide,?_⟩;apply gT<;>intro h
  ·simp at h;have hju2:((List.map (λx=>List.map AC.d x) (encI (nR (kG a.tags b.tags) j))).set j [AC.d (D.int IntKind.i64 a.tags[j])])[j]?=some [AC.d (D.int IntKind.i64 a.tags[j])]:=by
    rw[getElem?_set_self (by simp[hup];exact hj)]
   rw[hju2];refine⟨by omega,?_⟩;refine⟨by decide,?_⟩;refine fJ (j+1) [0,1,2] (by omega) (by omega) ?_;simp;refine⟨wI,?_⟩;rw[<-hset b.tags[j] (by rw[hval,aC h])];simp[fA]
  ·simp at h;refine fJ (j+1) [0,1,2] (by omega) (by omega) ?_;simp;refine⟨wI,?_⟩;rw[<-hset a.tags[j] (by rw[hval,aB h])];simp[fA]
 ·have hj:j=6:=by simp at h;omega
  subst hj;have hup:nR (kG a.tags b.tags) 6=kG a.tags b.tags:=by
   unfold nR;rw[aD (by omega)];simp
  rw[hup];exact hQ _ (by simp) (by simp) (by simp) (by simp)
def wm(a b:gy)(j:Nat):List (fI × Int):=oM a.needs (b.needs.take j)
theorem zkT{a b:gy}{j:Nat}(h:j<b.needs.length):wm a b (j+1)=if(a.needs.any λm=>decide (m.1=b.needs[j].1))=true then wm a b j else wm a b j++[b.needs[j]]:=by
 unfold wm oM;rw[aJ h,cB];by_cases q:(a.needs.any λm=>decide (m.1=b.needs[j].1))=true
 ·rw[aC q];simp[q]
 ·rw[aB q];simp[q]
theorem zlH(a b:gy)(j:Nat):(wm a b j).length<=a.needs.length+b.needs.length:=by
 have h1:=ZU a.needs (b.needs.take j);have h2:(b.needs.take j).length<=b.needs.length:=by rw[bH];omega
 unfold wm;omega
abbrev xn(n:Nat):Blk:=.box [.msl 1 1 0 6,.msl 2 3 0 n,.d (.sl true 1 []),.d (.sl true 5 []),.d (.sl true 5 [])]
theorem Pm{c:Ctx}(hp:c.pure){a b:gy}(Ma:May a)(Mb:May b)(T:List Int)(hal:a.needs.length<=536870912)(hbl:b.needs.length<=536870912){Q:Exit->St->Prop}{S:St}{g}{ms:List Nat}
  (h0:iM ms S ((7,.c (.d (.int .i64 0)))::vw a b) [jq,.arr 1 ((encI T).map (·.map .d)),xn a.needs.length,.arr 2 ((iF a.needs).map (·.map .d))])
  (hQ:∀T',Abs.look T' 2=.c (.d (.rp a.enc 0))->Abs.look T' 3=.c (.d (.rp b.enc 0))->Abs.look T' 4=.c (.ptr 0 0)->Abs.look T' 5=.c (.ptr 2 0)->
   Q (.exit 2) ⟨T',hpOf [jq,.arr 1 ((encI T).map (·.map .d)),xn (qQ a b).length,.arr 2 ((iF (qQ a b)).map (·.map .d))],4⟩):lU Pg c Ja Q g S:=by
 have ha4:a.tags[4]?=some (iE a 4):=wh Ma.tags (by omega);by_cases q4:iE a 4=0;rotate_left
 ·have hn:qQ a b=a.needs:=by unfold qQ;rw[aB q4]
  rw[hn]at hQ
  refine fU iC hp (λj:Nat=>j=0) (λj=>(7,.c (.d (.int .i64 0)))::vw a b) (λ_=>[jq,.arr 1 ((encI T).map (·.map .d)),xn a.needs.length,.arr 2 ((iF a.needs).map (·.map .d))])
   (λj=>0) 0 ms rfl h0 λj h1=>?_
  unfold Ja;simp;apply gT<;>intro h
  ·simp[ha4,q4];exact hQ _ (by simp) (by simp) (by simp) (by simp)
  ·exact hQ _ (by simp) (by simp) (by simp) (by simp)
 have hn:qQ a b=wm a b b.needs.length:=by unfold qQ wm;rw[aC q4,bG]
 have hn0:wm a b 0=a.needs:=by simp[wm,oM]
 rw[hn]at hQ
 refine fU iC hp (λj:Nat=>j<=b.needs.length) (λj=>(7,.c (.d (.int .i64 j)))::vw a b) (λj=>[jq,.arr 1 ((encI T).map (·.map .d)),xn (wm a b j).length,.arr 2 ((iF (wm a b j)).map (·.map .d))])
  (λj=>b.needs.length-j) 0 ms (by simp) (by simpa[hn0]using h0) λj h1=>?_
 unfold Ja;simp;apply gT<;>intro h
 ·have hj:j<b.needs.length:=by simpa using h
  simp[ha4,q4]
  refine fU iC hp (λk:Nat=>k<=a.needs.length) (λk=>(9,.c (.d (.int .i64 k)))::(8,.c (.d (.bool ((a.needs.take k).any λm=>decide (m.1=b.needs[j].1)))))::(7,.c (.d (.int .i64 j)))::vw a b)
   (λk=>[jq,.arr 1 ((encI T).map (·.map .d)),xn (wm a b j).length,.arr 2 ((iF (wm a b j)).map (·.map .d))])
   (λk=>a.needs.length-k) 0 [0,1,2,3] (by simp) (by simp) λk h2=>?_
  unfold Ye;simp;apply gT<;>intro h
  ·have hk:k<a.needs.length:=by simpa using h
   have hany:((a.needs.take (k+1)).any λm=>decide (m.1=b.needs[j].1))=(((a.needs.take k).any λm=>decide (m.1=b.needs[j].1))||decide (a.needs[k].1=b.needs[j].1)):=by
    rw[aJ hk,any_append];simp
   apply gT<;>intro h
   ·rw[h,d9]at hany;simp[iF,aA hk,aA hj];refine⟨by decide,?_⟩;refine fJ (k+1) [0,1,2,3] (by omega) (by omega) ?_;rw[hany];simp;exact wI
   ·simp only[Bool.not_false]at h;rw[h,eF]at hany;refine⟨by decide,?_⟩;refine fJ (k+1) [0,1,2,3] (by omega) (by omega) ?_;rw[hany];simp;exact wI
  ·have hk:k=a.needs.length:=by simp at h;omega
   subst hk;have hs:=zkT (a:=a) hj;have hlen:=zlH a b j;simp;apply gT<;>intro h
   ·have hf:(a.needs.any λm=>decide (m.1=b.needs[j].1))=false:=by simpa using h
    rw[aB (by simp[hf])]at hs;simp[iF,aA hj];refine⟨by omega,by decide,?_⟩;refine fJ (j+1) [0,1,2,4] (by omega) (by omega) ?_;rw[hs];simp;refine⟨wI,?_⟩;rw[aD (by simp)];try simp[iF]
   ·have hf:(a.needs.any λm=>decide (m.1=b.needs[j].1))=true:=by simpa using h
    rw[aC hf]at hs;refine fJ (j+1) [0,1,2,3] (by omega) (by omega) ?_;rw[hs];simp;exact wI
 ·have hj:j=b.needs.length:=by simp at h;omega
  subst hj;exact hQ _ (by simp) (by simp) (by simp) (by simp)
def wB(V:fI->gy)(l:List fI)(j:Nat):List (fI × gy):=busy ((l.take j).map λk=>(k,V k))
theorem zmK{V:fI->gy}{l:List fI}{j:Nat}(h:j<l.length):wB V l (j+1)=if jX (V l[j]) idC=true then wB V l j else wB V l j++[(l[j],V l[j])]:=by
 unfold wB busy;rw[aJ h,dW,cB];by_cases q:jX (V l[j]) idC=true
 ·rw[aC q];simp[q]
 ·rw[aB q];simp[q]
theorem znL(V:fI->gy)(l:List fI)(j:Nat):(wB V l j).length<=l.length:=by
 unfold wB busy;refine ak (bQ _ _) ?_;rw[aU,bH];omega
abbrev BA(A B:D)(n:Nat):Blk:=.box [.d A,.d B,.msl 1 4 0 n,.msl 5 5 0 n,.d (.sl true 5 [])]
abbrev Gt(L:List (fI × gy)):Blk:=.arr 1 ((encS (L.map (·.1))).map (·.map .d))
abbrev Gu(L:List (fI × gy)):Blk:=.arr 5 (((L.map (·.2)).map gy.enc).map (·.map .d))
theorem Pn{c:Ctx}(hp:c.pure){a b:gy}(Ma:May a)(Mb:May b)(V:fI->gy)(l:List fI)(hl:l.length<=1073741824)(sa:a.names.length<=536870912)(sb:b.names.length<=536870912)
  (H1:∀k,k∈l->gu Pg 69 [.agg (jy a k).enc,.agg (jy b k).enc] (.agg (V k).enc))
  (T:List Int) (hT:T.length=6) (B:D) {Q:Exit->St->Prop} {S:St} {g} {ms:List Nat}
  (h0:iM ms S ((11,.c (.d (.int .i64 0)))::(10,.c (.d (.sl false 1 (encS l))))::vw a b) [jq,.dead,BA (.sl false 1 (encI T)) B 0,.dead,.arr 1 [],.arr 5 []])
  (hQ:∀T' L,L=(if T.getD 4 0=0 then wB V l l.length else [])->Abs.look T' 2=.c (.d (.rp a.enc 0))->Abs.look T' 3=.c (.d (.rp b.enc 0))->Abs.look T' 4=.c (.ptr 0 0)->Abs.look T' 5=.c (.ptr 2 0)->
   Q (.exit 6) ⟨T',hpOf [jq,.dead,BA (.sl false 1 (encI T)) B L.length,.dead,Gt L,Gu L],6⟩):lU Pg c Jb Q g S:=by
 have hT4:T[4]?=some (T.getD 4 0):=wh hT (by omega);have hb0:wB V l 0=[]:=by simp[wB,busy]
 generalize T.getD 4 0=t4 at*
 by_cases q4:t4=0;rotate_left
 ·rw[aB q4]at hQ
  refine fU iC hp (λj:Nat=>j=0) (λj=>(11,.c (.d (.int .i64 0)))::(10,.c (.d (.sl false 1 (encS l))))::vw a b) (λ_=>[jq,.dead,BA (.sl false 1 (encI T)) B 0,.dead,.arr 1 [],.arr 5 []])
   (λj=>0) 0 ms rfl h0 λj h1=>?_
  unfold Jb;simp;apply gT<;>intro h
  ·simp[hT4,q4];exact hQ _ [] rfl (by simp) (by simp) (by simp) (by simp)
  ·exact hQ _ [] rfl (by simp) (by simp) (by simp) (by simp)
 rw[aC q4]at hQ
 refine fU iC hp (λj:Nat=>j<=l.length) (λj=>(11,.c (.d (.int .i64 j)))::(10,.c (.d (.sl false 1 (encS l))))::vw a b)
  (λj=>[jq,.dead,BA (.sl false 1 (encI T)) B (wB V l j).length,.dead,Gt (wB V l j),Gu (wB V l j)])
  (λj=>l.length-j) 0 ms (by simp) (by simp only[hb0];exact h0) λj h1=>?_
 unfold Jb;simp;apply gT<;>intro h
 ·have hj:j<l.length:=by simpa using h
  have hs:=zmK (V:=V) hj;have hlen:=znL V l j;simp[hT4,q4,aA hj];refine gp (ZW a l[j] Ma.len sa) ?_;simp[aA hj];refine gp (ZW b l[j] Mb.len sb) ?_;simp[aA hj];refine gp (H1 l[j] (aP hj)) ?_;simp;generalize wB V l j=L at*
  by_cases q:jX (V l[j]) idC=true
  ·rw[aC q]at hs;have hr:=znK (.sl false 1 (encI T)) B (.sl true 5 []) (L.map (·.1)) (L.map (·.2)) l[j] (V l[j]) q;simp only[aU]at hr;refine gU [4,5] hr ?_;simp;refine⟨by decide,fo [] ?_⟩;simp;refine fJ (j+1) [0,1,2,3,4,5] (by omega) (by omega) ?_;rw[hs];simp;exact wI
  ·rw[aB q]at hs;have hr:=zmJ (.sl false 1 (encI T)) B (.sl true 5 []) (L.map (·.1)) (L.map (·.2)) l[j] (V l[j]) (by simpa using q) (by simp;omega) (by simp;omega);simp only[aU]at hr;refine gU [4,5] hr ?_;simp;refine⟨by decide,fo [] ?_⟩;simp;refine fJ (j+1) [0,1,2,3,6,7] (by omega) (by omega) ?_;rw[hs];simp;exact wI
 ·have hj:j=l.length:=by simp at h;omega
  subst hj;exact hQ _ _ rfl (by simp) (by simp) (by simp) (by simp)
structure ZX (v:gy->gy->gy) (a b:gy):Prop where
 Ma:May a
 Mb:May b
 v0:v idC idC=idC
 sa:qz 536870912 a
 sb:qz 536870912 b
 H1:∀k,k∈w9 a b->gu Pg 69 [.agg (jy a k).enc,.agg (jy b k).enc] (.agg (v (jy a k) (jy b k)).enc)
 H2:0<a.fn.length+b.fn.length->gu Pg 69 [.agg (il b).1.enc,.agg (il a).1.enc] (.agg (v (il b).1 (il a).1).enc)
 H3:0<a.fn.length+b.fn.length->gu Pg 69 [.agg (il a).2.enc,.agg (il b).2.enc] (.agg (v (il a).2 (il b).2).enc)
theorem zmL{v:gy->gy->gy}{a b:gy}(H:ZX v a b):(iZ v a b).fn=if iE (iZ v a b) 5=0/\0<a.fn.length+b.fn.length then lM (v (il b).1 (il a).1) (v (il a).2 (il b).2)else []:=by
 have h0:(iZ v a b).fn=if iE (iZ v a b) 5=0 then lM (v (il b).1 (il a).1) (v (il a).2 (il b).2)else []:=rfl;rw[h0];by_cases q:iE (iZ v a b) 5=0
 ·by_cases r:0<a.fn.length+b.fn.length
  ·rw[aC q,aC ⟨q,r⟩]
  ·have ea:a.fn=[]:=aT.1 (by omega);have eb:b.fn=[]:=aT.1 (by omega);have pa:il a=(idC,idC):=by unfold il;rw[ea]
   have pb:il b=(idC,idC):=by unfold il;rw[eb]
   rw[aC q,aB (λh=>r h.2),pa,pb];unfold lM;simp[H.v0,Gn]
 ·rw[aB q,aB (λh=>q h.1)]
theorem ZY{v:gy->gy->gy}{a b:gy}(H:ZX v a b):gu Pg 69 [.agg a.enc,.agg b.enc] (.agg (iZ v a b).enc):=by
 have Ma:=H.Ma;have Mb:=H.Mb;have sa:=H.sa;have sb:=H.sb;refine zhP (by simp) λo c hN hp=>?_;have hL:(kG a.tags b.tags).length=6:=D8 Ma.tags Mb.tags;have hc5:(kG a.tags b.tags)[5]?=some (iE (iZ v a b) 5):=wh hL (by omega);have hc4:(kG a.tags b.tags).getD 4 0=iE (iZ v a b) 4:=rfl;have hE:(iZ v a b).enc=[.sl false 1 (encI (kG a.tags b.tags)),.sl false 2 (iF (iZ v a b).needs),.sl false 1 (encS (iZ v a b).names),.sl false 5 ((iZ v a b).fields.map gy.enc),.sl false 5 ((iZ v a b).fn.map gy.enc)]:=gy.enc_eq _;have hneeds:(iZ v a b).needs=qQ a b:=rfl;have hnames:(iZ v a b).names=(if iE (iZ v a b) 4=0 then pK v a b else []).map (·.1):=by
  have:(iZ v a b).names=if iE (iZ v a b) 4=0 then(pK v a b).map (·.1)else []:=rfl;rw[this];split<;>rfl
 have hfields:(iZ v a b).fields=(if iE (iZ v a b) 4=0 then pK v a b else []).map (·.2):=by
  have:(iZ v a b).fields=if iE (iZ v a b) 4=0 then(pK v a b).map (·.2)else []:=rfl;rw[this];split<;>rfl
 have hfn:=zmL H;rw[hE,hneeds,hnames,hfields,hfn];clear hE hneeds hnames hfields hfn;have hfs:pK v a b=wB (λk=>v (jy a k) (jy b k)) (w9 a b) (w9 a b).length:=by unfold wB pK;rw[bG]
 generalize hL0:(if iE (iZ v a b) 4=0 then pK v a b else [])=L0;generalize hG:(if iE (iZ v a b) 5=0/\0<a.fn.length+b.fn.length then lM (v (il b).1 (il a).1) (v (il a).2 (il b).2)else [])=G;have h6:6<=(kG a.tags b.tags).length:=by omega
 have han:a.needs.length<=536870912:=sa.needs;have hbn:b.needs.length<=536870912:=sb.needs;have hfl:a.fn.length<=2/\b.fn.length<=2:=⟨by have:=Ma.fn_len;omega,by have:=Mb.fn_len;omega⟩
 have hal:a.names.length<=536870912:=by have:=sa.fields;have:=Ma.len;omega
 have hbl:b.names.length<=536870912:=by have:=sb.fields;have:=Mb.len;omega
 have hkl:=ZV a b;unfold Yf;simp;refine gU [] D5 ?_;simp;refine Pk hp Ma Mb (by simp) λS0 e2 e3 e4 e5=>?_;generalize kG a.tags b.tags=T at*
 have htk:(encI T).take 6=encI T:=aD (by simp[hL]);simp;refine fo [.c 2 1] ?_;simp only[Sg,Sd];simp only[EH,Ci,getElem?_cons_zero,getElem?_cons_succ];refine⟨by simp,?_⟩
 refine St.forget (F:=w_ Pg c _ _ _) (λT' M=>Abs.look T' 2=.c (.d (.rp a.enc 0))/\Abs.look T' 3=.c (.d (.rp b.enc 0))/\Abs.look T' 4=.c (.ptr 0 0)/\Abs.look T' 5=.c (.ptr 2 0)/\
  M 0=jq/\M 1=.arr 1 ((encI T).map (·.map .d))/\M 2=xn 0/\M 3=.arr 2 []/\∀i,4<=i->M i=.non) ?_ λT' M ⟨e2,e3,e4,e5,m0,m1,m2,m3,mn⟩=>?_
 ·refine⟨e2,e3,e4,e5,by simp,by simp,by simp,by simp,λi hi=>?_⟩;have h1:i≠2:=by omega
  have h2:i≠3:=by omega
  simp only[AQ,aB h1,aB h2];exact rW (by simp;omega)
 simp[e2,e3,e4,e5,m0,m1,m2,m3,mn];refine⟨by omega,?_⟩;clear mn;refine Pm hp Ma Mb T han hbn (ms:=[0,1,2,4]) (by simp[e2,e3,e4,e5,m0,m1,m2,m3]) λS1 e2 e3 e4 e5=>?_;clear m0 m1 m2 m3;generalize qQ a b=Nd at*
 have hNd:(iF Nd).take Nd.length=iF Nd:=aD (by simp);simp;refine fe [1,3] ?_;simp only[BZ,AQ,aC,aB,reduceIte,Nat.reduceEqDiff,AL,qH,Blk.fz_arr,BX,wQ,EH,Ci]
 refine St.forget (F:=w_ Pg c _ _ _) (λT' M=>Abs.look T' 2=.c (.d (.rp a.enc 0))/\Abs.look T' 3=.c (.d (.rp b.enc 0))/\Abs.look T' 4=.c (.ptr 0 0)/\Abs.look T' 5=.c (.ptr 2 0)/\
  M 0=jq/\M 1=.dead/\M 2=.box [.d (.sl false 1 (encI T)),.d (.sl false 2 (iF Nd)),.d (.sl true 1 []),.d (.sl true 5 []),.d (.sl true 5 [])]/\M 3=.dead/\∀i,4<=i->M i=.non) ?_ λT' M ⟨e2,e3,e4,e5,m0,m1,m2,m3,mn⟩=>?_
 ·refine⟨?_,?_,?_,?_,?_,?_,?_,?_,λi hi=>?_⟩
  ·simp only[iT,sN,aB,reduceIte,Nat.reduceEqDiff,e2,gQ,AC.fz_d]
  ·simp only[iT,sN,aB,reduceIte,Nat.reduceEqDiff,e3,gQ,AC.fz_d]
  ·simp only[iT,sN,aB,reduceIte,Nat.reduceEqDiff,e4,gQ,AC.fz_ptr]
  ·simp only[iT,sN,aB,reduceIte,Nat.reduceEqDiff,e5,gQ,AC.fz_ptr]
  ·simp[qH]
  ·simp[qH]
  ·simp[qH,h6,htk,hNd]
  ·simp[qH]
  ·have h1:i≠1:=by omega
   have h3:i≠3:=by omega
   simp[qH,h1,h3];rw[rW (by simp;omega)];try rfl
 simp[e2,e3,e4,e5,m0,m1,m2,m3,mn];refine gp (zlG a.names b.names Ma.names Mb.names hal hbl) ?_;have hku:zco (a.names++b.names.filter λk=> !decide (k∈a.names))=w9 a b:=rfl;rw[hku];have H1:=H.H1;clear hku;generalize w9 a b=K at*
 simp[e2,e3,e4,e5,m0,m1,m2,m3,mn];refine fo [.c 2 2,.c 2 3] ?_;simp[e2,e3,e4,e5,m0,m1,m2,m3,mn];refine Pn hp Ma Mb (λk=>v (jy a k) (jy b k)) K (by omega) hal hbl H1 T hL (.sl false 2 (iF Nd)) (ms:=[0,1,2,3,4,5]) (by simp[e2,e3,e4,e5,m0,m1,m2,m3]) λS2 L hL2 e2 e3 e4 e5=>?_;clear m0 m1 m2 m3 mn;rw[hc4,<-hfs,hL0]at hL2;subst hL2;clear hL0 hfs;have ht1:(encS (L.map (·.1))).take L.length=encS (L.map (·.1)):=aD (by simp);have ht2:((L.map (·.2)).map gy.enc).take L.length=(L.map (·.2)).map gy.enc:=aD (by simp);simp;refine fe [4,5] ?_;simp only[BZ,AQ,aC,aB,reduceIte,Nat.reduceEqDiff,AL,qH,Blk.fz_arr,BX,wQ,EH,Ci]
 refine St.forget (F:=w_ Pg c _ _ _) (λT' M=>Abs.look T' 2=.c (.d (.rp a.enc 0))/\Abs.look T' 3=.c (.d (.rp b.enc 0))/\Abs.look T' 4=.c (.ptr 0 0)/\Abs.look T' 5=.c (.ptr 2 0)/\
  M 0=jq/\M 2=.box [.d (.sl false 1 (encI T)),.d (.sl false 2 (iF Nd)),.d (.sl false 1 (encS (L.map (·.1)))),.d (.sl false 5 ((L.map (·.2)).map gy.enc)),.d (.sl true 5 [])]/\∀i,6<=i->M i=.non) ?_ λT' M ⟨e2,e3,e4,e5,m0,m2,mn⟩=>?_
 ·refine⟨?_,?_,?_,?_,?_,?_,λi hi=>?_⟩
  ·simp only[iT,sN,aB,reduceIte,Nat.reduceEqDiff,e2,gQ,AC.fz_d]
  ·simp only[iT,sN,aB,reduceIte,Nat.reduceEqDiff,e3,gQ,AC.fz_d]
  ·simp only[iT,sN,aB,reduceIte,Nat.reduceEqDiff,e4,gQ,AC.fz_ptr]
  ·simp only[iT,sN,aB,reduceIte,Nat.reduceEqDiff,e5,gQ,AC.fz_ptr]
  ·simp[qH]
  ·simp only[bv]at ht2;simp[qH,ht1,ht2]
  ·have h1:i≠4:=by omega
   have h3:i≠5:=by omega
   simp[qH,h1,h3];rw[rW (by simp;omega)];try rfl
 generalize (L.map (·.2)).map gy.enc=F5 at*
 generalize encS (L.map (·.1))=F4 at*
 have H2:=H.H2;have H3:=H.H3;generalize iE (iZ v a b) 5=t5 at*
 have ha:(a.fn=[]/\il a=(idC,idC))\/∃x y,a.fn=[x,y]/\il a=(x,y):=by
  rcases Ma.fn with e|⟨f,g,e,_⟩
  ·exact .inl ⟨e,by unfold il;rw[e]⟩
  ·exact .inr ⟨f,g,e,by unfold il;rw[e]⟩
 have hb:(b.fn=[]/\il b=(idC,idC))\/∃x y,b.fn=[x,y]/\il b=(x,y):=by
  rcases Mb.fn with e|⟨f,g,e,_⟩
  ·exact .inl ⟨e,by unfold il;rw[e]⟩
  ·exact .inr ⟨f,g,e,by unfold il;rw[e]⟩
 by_cases q5:t5=0
 ·rcases ha with⟨ea,pa⟩|⟨x,y,ea,pa⟩<;>rcases hb with⟨eb,pb⟩|⟨x',y',eb,pb⟩
  ·have q:¬(t5=0/\0<a.fn.length+b.fn.length):=by simp[ea,eb]
   rw[aB q]at hG;subst hG;simp[hc5,e2,e3,e4,e5,m0,m2,mn,q5,ea,eb]
  ·have q:0<a.fn.length+b.fn.length:=by simp[ea,eb]
   have H2:=H2 q;have H3:=H3 q;rw[aC ⟨q5,q⟩]at hG;rw[pa,pb]at H2 H3 hG;simp only at H2 H3 hG;subst hG;simp[hc5,e2,e3,e4,e5,m0,m2,mn,q5,ea,eb];refine gp wZ ?_;simp;refine gp wZ ?_;simp;refine gp wZ ?_;simp;refine gp wZ ?_;simp[e2,e3,e4,e5,m0,m2,mn,ea,eb];refine gp H2 ?_;simp[e2,e3,e4,e5,m0,m2,mn,ea,eb];refine gp H3 ?_;simp[e2,e3,e4,e5,m0,m2,mn,ea,eb];refine gp (Jn _ _) ?_;simp[e2,e3,e4,e5,m0,m2,mn,ea,eb];decide
  ·have q:0<a.fn.length+b.fn.length:=by simp[ea,eb]
   have H2:=H2 q;have H3:=H3 q;rw[aC ⟨q5,q⟩]at hG;rw[pa,pb]at H2 H3 hG;simp only at H2 H3 hG;subst hG;simp[hc5,e2,e3,e4,e5,m0,m2,mn,q5,ea,eb];refine gp wZ ?_;simp;refine gp wZ ?_;simp;refine gp wZ ?_;simp;refine gp wZ ?_;simp[e2,e3,e4,e5,m0,m2,mn,ea,eb];refine gp H2 ?_;simp[e2,e3,e4,e5,m0,m2,mn,ea,eb];refine gp H3 ?_;simp[e2,e3,e4,e5,m0,m2,mn,ea,eb];refine gp (Jn _ _) ?_;simp[e2,e3,e4,e5,m0,m2,mn,ea,eb];decide
  ·have q:0<a.fn.length+b.fn.length:=by simp[ea,eb]
   have H2:=H2 q;have H3:=H3 q;rw[aC ⟨q5,q⟩]at hG;rw[pa,pb]at H2 H3 hG;simp only at H2 H3 hG;subst hG;simp[hc5,e2,e3,e4,e5,m0,m2,mn,q5,ea,eb];refine gp wZ ?_;simp;refine gp wZ ?_;simp;refine gp wZ ?_;simp;refine gp wZ ?_;simp[e2,e3,e4,e5,m0,m2,mn,ea,eb];refine gp H2 ?_;simp[e2,e3,e4,e5,m0,m2,mn,ea,eb];refine gp H3 ?_;simp[e2,e3,e4,e5,m0,m2,mn,ea,eb];refine gp (Jn _ _) ?_;simp[e2,e3,e4,e5,m0,m2,mn,ea,eb];decide
 ·simp[q5]at hG;subst hG;simp[hc5,e2,e3,e4,e5,m0,m2,mn,q5]
theorem Jo:∀(n:Nat) {a b:gy},oz n a->oz n b->iU a=true->iU b=true->lw 536870912 a->lw 536870912 b->gu Pg 69 [.agg a.enc,.agg b.enc] (.agg (mg n a b).enc)
| 0,a,b,ia,ib,ma,mb,sa,sb=>by
 have ea:a=idC:=ia;have eb:b=idC:=ib;have e:mg 0 a b=iZ (mg 0) a b:=by rw[ea,eb];exact(Ed 1).symm
 rw[e];refine ZY ⟨(sI _).1 ma,(sI _).1 mb,rfl,CE sa,CE sb,λk hk=>?_,λh=>?_,λh=>?_⟩
 ·rw[ea,eb]at hk;rcases Pe.1 hk with h|h<;>cases h
 ·rw[ea,eb]at h;simp[idC,gy.fn]at h
 ·rw[ea,eb]at h;simp[idC,gy.fn]at h
|n+1,a,b,ia,ib,ma,mb,sa,sb=>by
 have Ma:=(sI _).1 ma;have Mb:=(sI _).1 mb;refine ZY ⟨Ma,Mb,Ed n,CE sa,CE sb,λk _=>?_,λ_=>?_,λ_=>?_⟩
 ·exact Jo n (yK ia Ma.len k) (yK ib Mb.len k) (Ma.field k) (Mb.field k) (Ef sa Ma.len k) (Ef sb Mb.len k)
 ·exact Jo n (sS ib).1 (sS ia).1 Mb.pair.1 Ma.pair.1 (yL sb).1 (yL sa).1
 ·exact Jo n (sS ia).2 (sS ib).2 Ma.pair.2 Mb.pair.2 (yL sa).2 (yL sb).2
theorem zj1(n:Nat){a b:gy}(ia:oz n a)(ib:oz n b)(sa:lw 536870912 a)(sb:lw 536870912 b):gu Pg 41 [.agg a.enc,.agg b.enc] (.agg (CF n a b).enc):=by
 refine ziE (by simp) λo c hN hp=>?_;unfold Yd CF;simp;refine gp (P7 a) ?_;simp;refine gp (P7 b) ?_;simp;by_cases h1:iU a=true
 ·by_cases h2:iU b=true
  ·simp[h1,h2];refine gp (Jo n ia ib h1 h2 sa sb) ?_;simp[h1,h2]
  ·simp at h2;simp[h1,h2,ul,gy.enc,gy.encs]
 ·simp at h1;simp[h1,ul,gy.enc,gy.encs]
abbrev ZZ(t n k f:Nat)(T:List Int)(C:gy)(x:D):AV:=.ag [.msl 1 t 0 T.length,.msl 2 n 0 C.needs.length,.msl 1 k 0 C.names.length,.msl 5 f 0 C.fields.length,.d x]
abbrev wo(T:List Int):Blk:=.arr 1 ((encI T).map (·.map .d))
abbrev Jp(C:gy):Blk:=.arr 2 ((iF C.needs).map (·.map .d))
abbrev Jq(C:gy):Blk:=.arr 1 ((encS C.names).map (·.map .d))
abbrev Jr(C:gy):Blk:=.arr 5 ((C.fields.map gy.enc).map (·.map .d))
def jB(C:gy)(k:fI)(d:gy):gy:=if jX d idC=true then C else .mk C.tags C.needs (C.names++[k]) (C.fields++[d]) C.fn
theorem zoi{ts:List (Nat × Nat)}{a b c d:Blk}(h:ts.length=[a,b,c,d].length):∃t u v w,ts=[t,u,v,w]:=by
 match ts,h with
 |[t,u,v,w],_=>exact⟨t,u,v,w,rfl⟩
theorem Js(T:List Int)(C:gy)(x:D)(k:fI)(d:gy)(h1:C.names.length<=1073741824)(h2:C.fields.length<=1073741824):
  MCall Pg 116 [ZZ 0 1 2 3 T C x,.c (.d (.str k)),.ag (d.enc.map .d)] [wo T,Jp C,Jq C,Jr C]
   (ZZ 0 1 4 5 T (jB C k d) x) [wo T,Jp (jB C k d),.dead,.dead,Jq (jB C k d),Jr (jB C k d)]:=by
 refine PG ⟨by simp,by simp,by simp,by simp,by simp,by simp[live],by simp[live]⟩ λts hts ok hb c hN hp=>?_;obtain⟨t,u,v,w,rfl⟩:=zoi hts;unfold J9 jB;simp;refine gp (Av d) ?_;simp;by_cases hd:jX d idC=true
 ·simp[hd];exact fQ [0,1,8,9,2,3] [4,5,4,4]
 ·simp[hd];refine⟨by omega,by omega,fT [0,1,2,3,10,11] [4,5,4,4] ?_⟩;simp[encS,gy.needs,gy.names,gy.fields,gy.tags,gy.fn];exact⟨aD (by simp),aD (by simp)⟩
theorem Jt(C:gy)(k:fI)(d:gy):(jB C k d).names.length<=C.names.length+1/\(jB C k d).fields.length<=C.fields.length+1/\(jB C k d).needs=C.needs/\(jB C k d).fn=C.fn:=by
 unfold jB;split
 ·exact⟨by omega,by omega,rfl,rfl⟩
 ·exact⟨by simp[gy.names],by simp[gy.fields],rfl,rfl⟩
def mh(C:gy)(k:fI)(lb:Int):gy:=.mk C.tags (C.needs++[(k,lb)]) C.names C.fields C.fn
def nS(v:gq->gq->Int->gy)(lb:Int):List fI->List gq->gy->gy
|k::ks,t::ts,C=>nS v lb ks ts (jB C k (v t noT lb))
|_,_,C=>C
def nT(v:gq->gq->Int->gy)(m:ik)(lb:Int):List fI->List gq->gy->gy
|k::ks,t::ts,C=>
 let c1:=if(je m.t k).2=false then mh C k lb else C
 nT v m lb ks ts (if(je m.t k).2=true\/m.opn=true then jB c1 k (v (je m.t k).1 t lb)else c1)
|_,_,C=>C
def q9(v:gq->gq->Int->gy)(m n:ik)(lb:Int)(C:gy):gy:=
 if n.opn=true then(if m.opn=true then C else nS v lb m.t.names m.t.kids C)else nT v m lb n.t.names n.t.kids C
@[simp] theorem ik.gt0(p:ik)(h:0<p.enc.length):p.enc[0]=.int .i64 p.tag:=rfl
@[simp] theorem ik.gt1(p:ik)(h:1<p.enc.length):p.enc[1]=.bool p.opn:=rfl
def wC(T:List Int)(x:List gy):gy:=.mk T [] [] [] x
abbrev CG:Blk:=.box [.d (.sl true 1 []),.d (.sl true 2 []),.d (.sl true 1 []),.d (.sl true 5 []),.d (.sl true 5 [])]
abbrev Gv(T:List Int)(C:gy)(x:D):Blk:=.box [.msl 1 0 0 T.length,.msl 2 4 0 C.needs.length,.msl 1 5 0 C.names.length,.msl 5 6 0 C.fields.length,.d x]
@[simp] theorem zm(C:gy)(k:fI)(lb:Int):(mh C k lb).needs=C.needs++[(k,lb)]:=rfl
@[simp] theorem Ju(C:gy)(k:fI)(lb:Int):(mh C k lb).names=C.names:=rfl
@[simp] theorem Jv(C:gy)(k:fI)(lb:Int):(mh C k lb).fields=C.fields:=rfl
theorem Jw(a:List (fI × Int))(k:fI)(lb:Int):iF (a++[(k,lb)])=iF a++[[.str k,.int .i64 lb]]:=by simp[iF]
theorem take1(l:List fI):(encS l).take l.length=encS l:=aD (by simp[encS])
theorem take2(l:List (fI × Int)):(iF l).take l.length=iF l:=aD (by simp[iF])
theorem Jy(l:List (fI × Int)):((iF l).map λx=>x.map AC.d).take l.length=(iF l).map λx=>x.map AC.d:=aD (by simp[iF])
theorem Po(l:List gy):(l.map gy.enc).take l.length=l.map gy.enc:=aD (by simp)
theorem zm9{v:gq->gq->Int->gy}{lb:Int}{ns:List fI}{ks:List gq}{j:Nat}(h1:j<ns.length)(h2:j<ks.length)(C:gy):nS v lb (ns.drop j) (ks.drop j) C=nS v lb (ns.drop (j+1)) (ks.drop (j+1)) (jB C ns[j] (v ks[j] noT lb)):=by
 rw[aF h1,aF h2,nS]
theorem zna{v:gq->gq->Int->gy}{m:ik}{lb:Int}{ns:List fI}{ks:List gq}{j:Nat}(h1:j<ns.length)(h2:j<ks.length)(C:gy):nT v m lb (ns.drop j) (ks.drop j) C=nT v m lb (ns.drop (j+1)) (ks.drop (j+1)) (if(je m.t ns[j]).2=true\/m.opn=true then jB (if(je m.t ns[j]).2=false then mh C ns[j] lb else C) ns[j] (v (je m.t ns[j]).1 ks[j] lb)else(if(je m.t ns[j]).2=false then mh C ns[j] lb else C)):=by
 rw[aF h1,aF h2,nT]
theorem zlj(v:gq->gq->Int->gy)(m n:ik)(lb:Int)(T:List Int)(x:D)(hm:m.t.names.length<=m.t.kids.length)(hn:n.t.names.length<=n.t.kids.length)(sm:m.t.kids.length<=1000)(sn:n.t.kids.length<=1000)
  (hA:∀a,a∈m.t.kids->gu Pg 67 [.agg a.enc,.agg noT.enc,.one (.int .i64 lb)] (.agg (v a noT lb).enc))
  (hB:∀k a,a∈n.t.kids->gu Pg 67 [.agg (je m.t k).1.enc,.agg a.enc,.one (.int .i64 lb)] (.agg (v (je m.t k).1 a lb).enc)) (X:List gy):
  MCall Pg 113 [.ag [.msl 1 0 0 T.length,.d (.sl true 2 []),.d (.sl true 1 []),.d (.sl true 5 []),.d x],.ag (m.enc.map .d),.ag (n.enc.map .d),.c (.d (.int .i64 lb))] [wo T]
   (.ag [.msl 1 0 0 T.length,.d (.sl false 2 (iF (q9 v m n lb (wC T X)).needs)),.d (.sl false 1 (encS (q9 v m n lb (wC T X)).names)),.d (.sl false 5 ((q9 v m n lb (wC T X)).fields.map gy.enc)),.d x]) [wo T]:=by
 refine ziD ⟨by simp,by simp,by simp,by simp,by simp,by simp[live],by simp[live]⟩ λts hts ok hb c hN hp=>?_;obtain⟨t,rfl⟩:=mF hts;obtain⟨R,hR⟩:∃R,q9 v m n lb (wC T X)=R:=⟨_,rfl⟩
 rw[hR];unfold q9 at hR;unfold Ya;simp;refine fo [.c 2 1,.c 2 2,.c 2 3] ?_;simp only[Sg,Sd];simp;apply gT<;>intro h
 ·rw [aC h]at hR;refine fU iC hp (λY:Nat × gy=>Y.1<=m.t.names.length/\(if m.opn=true then Y.2 else nS v lb (m.t.names.drop Y.1) (m.t.kids.drop Y.1) Y.2)=R/\Y.2.names.length<=Y.1/\Y.2.fields.length<=Y.1) (λY=>[(9,.c (.d (.int .i64 Y.1))),(8,.c (.ptr 3 0)),(5,.c (.d (.rp m.enc 0))),(4,.c (.ptr 2 0)),(3,.c (.d (.int .i64 lb)))]) (λY=>[wo T,.pin t 0,Gv T Y.2 x,CG,Jp Y.2,Jq Y.2,Jr Y.2]) (λY=>m.t.names.length-Y.1) (0,wC T X) [0,1,2,3,4,5,6] ⟨by simp,by simpa using hR,by simp[wC,gy.names],by simp[wC,gy.fields]⟩ (by simp[wC,gy.names,gy.fields,gy.needs,iF,encS]) λ⟨j,C⟩ ⟨i1,i2,i3,i4⟩=>?_;unfold Y8;simp only at i1 i2 i3 i4;by_cases hj:j<m.t.names.length
  ·by_cases ho:m.opn=true
   ·rw[aC ho]at i2;subst i2;simp[encS,hj,ho];refine fe [4,5,6] ?_;simp[pI,jc,Gv];exact fT [0] [1] (by simp[take1,take2,Po];rfl)
   ·rw[aB ho]at i2;have hj2:j<m.t.kids.length:=by omega
    simp[encS,hj,ho,aA hj2];refine gp (gu.erd (hA _ (aP hj2)) (by simp[noT,DV.erds,DV.erd,D.erd,gq.enc,gq.encs])) ?_;simp;refine gU [0,4,5,6] (Js T C x m.t.names[j] (v m.t.kids[j] noT lb) (by omega) (by omega)) ?_;simp;refine⟨by decide,?_⟩;have pl:=Jt C m.t.names[j] (v m.t.kids[j] noT lb);refine fJ (j+1,jB C m.t.names[j] (v m.t.kids[j] noT lb)) [0,1,2,3,4,7,8] ⟨by simp;omega,?_,by simp;omega,by simp;omega⟩ (by simp;omega) ?_
    ·simp only[aB ho];rw[<-i2,zm9 hj hj2]
    ·simp;exact wI
  ·have ej:j=m.t.names.length:=by omega
   subst ej;have i2':C=R:=by
    rw[aO]at i2;revert i2;split<;>simp[nS]
   subst i2';simp[encS];refine fe [4,5,6] ?_;simp[pI,jc,Gv];exact fT [0] [1] (by simp[take1,take2,Po];rfl)
 ·rw[aB (by simp[h])]at hR;refine fU iC hp (λY:Nat × gy=>Y.1<=n.t.names.length/\nT v m lb (n.t.names.drop Y.1) (n.t.kids.drop Y.1) Y.2=R/\Y.2.names.length<=Y.1/\Y.2.fields.length<=Y.1/\Y.2.needs.length<=Y.1) (λY=>[(10,.c (.d (.int .i64 Y.1))),(8,.c (.ptr 3 0)),(6,.c (.d (.rp n.enc 0))),(5,.c (.d (.rp m.enc 0))),(4,.c (.ptr 2 0)),(3,.c (.d (.int .i64 lb)))]) (λY=>[wo T,.pin t 0,Gv T Y.2 x,CG,Jp Y.2,Jq Y.2,Jr Y.2]) (λY=>n.t.names.length-Y.1) (0,wC T X) [0,1,2,3,4,5,6] ⟨by simp,by simpa using hR,by simp[wC,gy.names],by simp[wC,gy.fields],by simp[wC,gy.needs]⟩ (by simp[wC,gy.names,gy.fields,gy.needs,iF,encS]) λ⟨j,C⟩ ⟨i1,i2,i3,i4,i5⟩=>?_;unfold Y9;simp only at i1 i2 i3 i4 i5;by_cases hj:j<n.t.names.length
  ·have hj2:j<n.t.kids.length:=by omega
   simp[encS,hj];refine gp (NZ m.t n.t.names[j] hm) ?_;simp;have hB':=hB n.t.names[j] _ (aP hj2);have hd:=zna (v:=v) (m:=m) (lb:=lb) hj hj2 C;cases hF:(je m.t n.t.names[j]).2<;>cases ho:m.opn<;>simp[hF,ho]at hd<;>simp[aA hj,aA hj2,put,splice,jc,pI]
   ·refine⟨by decide,by omega,by decide,?_⟩;refine fJ (j+1,mh C n.t.names[j] lb) [0,1,2,3,8,5,6] ⟨by simp;omega,by rw[<-i2,hd],by simp;omega,by simp;omega,by simp;omega⟩ (by simp;omega) ?_;simp[Jw,Jy];exact wI
   ·refine⟨by decide,by omega,by decide,?_⟩;refine gp hB' ?_;simp;refine gY [0,8,5,6] (Js T (mh C n.t.names[j] lb) x n.t.names[j] (v (je m.t n.t.names[j]).1 n.t.kids[j] lb) (by show C.names.length<=_;omega) (by show C.fields.length<=_;omega)) (by simp[Jw,Jy]) ?_;simp;refine⟨by decide,?_⟩;have pl:=Jt (mh C n.t.names[j] lb) n.t.names[j] (v (je m.t n.t.names[j]).1 n.t.kids[j] lb);try simp only[zm,Ju,Jv]at pl
    refine fJ (j+1,jB (mh C n.t.names[j] lb) n.t.names[j] (v (je m.t n.t.names[j]).1 n.t.kids[j] lb)) [0,1,2,3,8,9,10] ⟨by simp;omega,by rw[<-i2,hd],by simp;omega,by simp;omega,by simp[pl];omega⟩ (by simp;omega) ?_;simp;exact wI
   ·refine⟨by decide,?_⟩;refine gp hB' ?_;simp;refine gY [0,4,5,6] (Js T C x n.t.names[j] (v (je m.t n.t.names[j]).1 n.t.kids[j] lb) (by show C.names.length<=_;omega) (by show C.fields.length<=_;omega)) (by simp[Jw,Jy]) ?_;simp;refine⟨by decide,?_⟩;have pl:=Jt C n.t.names[j] (v (je m.t n.t.names[j]).1 n.t.kids[j] lb);try simp only[zm,Ju,Jv]at pl
    refine fJ (j+1,jB C n.t.names[j] (v (je m.t n.t.names[j]).1 n.t.kids[j] lb)) [0,1,2,3,4,8,9] ⟨by simp;omega,by rw[<-i2,hd],by simp;omega,by simp;omega,by simp[pl];omega⟩ (by simp;omega) ?_;simp;exact wI
   ·refine⟨by decide,?_⟩;refine gp hB' ?_;simp;refine gY [0,4,5,6] (Js T C x n.t.names[j] (v (je m.t n.t.names[j]).1 n.t.kids[j] lb) (by show C.names.length<=_;omega) (by show C.fields.length<=_;omega)) (by simp[Jw,Jy]) ?_;simp;refine⟨by decide,?_⟩;have pl:=Jt C n.t.names[j] (v (je m.t n.t.names[j]).1 n.t.kids[j] lb);try simp only[zm,Ju,Jv]at pl
    refine fJ (j+1,jB C n.t.names[j] (v (je m.t n.t.names[j]).1 n.t.kids[j] lb)) [0,1,2,3,4,8,9] ⟨by simp;omega,by rw[<-i2,hd],by simp;omega,by simp;omega,by simp[pl];omega⟩ (by simp;omega) ?_;simp;exact wI
  ·have ej:j=n.t.names.length:=by omega
   subst ej;have i2':C=R:=by
    rw[aO]at i2;revert i2;simp[nT]
   subst i2';simp[encS];refine fe [4,5,6] ?_;simp[pI,jc,Gv];exact fT [0] [1] (by simp[take1,take2,Po];rfl)
def mV(x:Int):Int:=if x%2=0 then x+1 else x-1
theorem Pp(n:Nat):((n^^^1:Nat):Int)=mV n:=by
 have h1:(n^^^1)/2=n/2:=by rw[Nat.xor_div_two];simp
 have h2:(n^^^1)%2=(n+1)%2:=by
  have:=Nat.xor_mod_two_pow (a:=n) (b:=1) (n:=1);simp only[Nat.pow_one]at this;rw[this];have h:n%2=0\/n%2=1:=by omega
  rcases h with h|h<;>rw[h]<;>simp<;>omega
 unfold mV;split<;>omega
theorem Jz{lb:Int}(h0:0<=lb)(h1:lb<=9223372036854775807):IntKind.i64.wrap (((lb%2^IntKind.i64.bits).toNat^^^1%2^IntKind.i64.bits:Nat):Int)=mV lb:=by
 obtain⟨n,rfl⟩:∃n:Nat,lb=n:=⟨lb.toNat,by omega⟩
 have e1:(((n:Int)%2^IntKind.i64.bits).toNat)=n:=by
  show((n:Int)%18446744073709551616).toNat=n;omega
 have e2:1%2^IntKind.i64.bits=1:=rfl;rw[e1,e2,Pp];have h2:mV (n:Int)<=9223372036854775807/\0<=mV (n:Int):=by unfold mV;split<;>omega
 exact wI
def pg(C:gy)(i:Nat)(x:Int):gy:=.mk (C.tags.set i x) C.needs C.names C.fields C.fn
def BB(C:gy)(g:List gy):gy:=.mk C.tags C.needs C.names C.fields g
def sU(v:gq->gq->Int->gy)(R:List ik)(lb:Int)(m:ik)(C:gy):gy:=
 if(jv R m.tag).2=false then pg C m.tag.toNat lb
 else if m.tag=5 then BB C (lM (v (jU (jv R 5).1.t) (jU m.t) (mV lb)) (v (jV m.t) (jV (jv R 5).1.t) lb))
 else if m.tag=4 then q9 v m (jv R 4).1 lb C else C
def qc(v:gq->gq->Int->gy)(R:List ik)(lb:Int):List ik->gy->gy
|[],C=>C
|m::l,C=>qc v R lb l (sU v R lb m C)
def qd:Nat->gq->gq->Int->gy
|0,_,_,_=>idC
|n+1,a,b,lb=>if a.kind=0/\b.kind=0 then idC else qc (qd n) (kF b) lb (kF a) idC
theorem zk0{R:List ik}{tag:Int}{k:Nat}(h:(R.drop k).find? (λp=>decide (p.tag=tag))=R.find? λp=>decide (p.tag=tag)):
  (∀hk:k<R.length,R[k].tag=tag->jv R tag=(R[k],true))/\(∀hk:k<R.length,R[k].tag≠tag->(R.drop (k+1)).find? (λp=>decide (p.tag=tag))=R.find? λp=>decide (p.tag=tag))/\(k=R.length->jv R tag=(JC,false)):=by
 refine⟨λhk e=>?_,λhk e=>?_,λe=>?_⟩
 ·rw[aF hk,find?_cons]at h;simp only[e,decide_true]at h;unfold jv;rw[<-h]
 ·rw[aF hk,find?_cons]at h;simpa only[e,decide_false]using h
 ·subst e;rw[aO,find?_nil]at h;unfold jv;rw[<-h]
theorem Z0(C:gy)(k:fI)(d:gy):(jB C k d).tags=C.tags/\(jB C k d).fn=C.fn:=by
 unfold jB;split<;>exact⟨rfl,rfl⟩
theorem Z4(v:gq->gq->Int->gy)(lb:Int):∀(ns:List fI) (ks:List gq) (C:gy),(nS v lb ns ks C).tags=C.tags/\(nS v lb ns ks C).fn=C.fn
|[],_,C=>by rw[nS];exact⟨rfl,rfl⟩;intros;contradiction
|_::_,[],C=>by rw[nS];exact⟨rfl,rfl⟩;intros;contradiction
|n::ns,k::ks,C=>by
 rw[nS];have h:=Z4 v lb ns ks (jB C n (v k noT lb));have h2:=Z0 C n (v k noT lb);exact⟨h.1.trans h2.1,h.2.trans h2.2⟩
theorem Z5(v:gq->gq->Int->gy)(m:ik)(lb:Int):∀(ns:List fI) (ks:List gq) (C:gy),(nT v m lb ns ks C).tags=C.tags/\(nT v m lb ns ks C).fn=C.fn
|[],_,C=>by rw[nT];exact⟨rfl,rfl⟩;intros;contradiction
|_::_,[],C=>by rw[nT];exact⟨rfl,rfl⟩;intros;contradiction
| n::ns,k::ks,C=>by
 rw[nT];have h1:(if(je m.t n).2=false then mh C n lb else C).tags=C.tags/\(if(je m.t n).2=false then mh C n lb else C).fn=C.fn:=by split<;>exact⟨rfl,rfl⟩
 generalize (if(je m.t n).2=false then mh C n lb else C)=c1 at*
 have h:=Z5 v m lb ns ks (if(je m.t n).2=true\/m.opn=true then jB c1 n (v (je m.t n).1 k lb)else c1);have h2:(if(je m.t n).2=true\/m.opn=true then jB c1 n (v (je m.t n).1 k lb)else c1).tags=c1.tags/\(if(je m.t n).2=true\/m.opn=true then jB c1 n (v (je m.t n).1 k lb)else c1).fn=c1.fn:=by
  split
  ·exact Z0 _ _ _
  ·exact⟨rfl,rfl⟩
 exact⟨h.1.trans (h2.1.trans h1.1),h.2.trans (h2.2.trans h1.2)⟩
theorem KA(v:gq->gq->Int->gy)(m n:ik)(lb:Int)(C:gy):(q9 v m n lb C).tags=C.tags/\(q9 v m n lb C).fn=C.fn:=by
 unfold q9;split
 ·split
  ·exact⟨rfl,rfl⟩
  ·exact Z4 v lb _ _ _
 ·exact Z5 v m lb _ _ _
abbrev xq(C:gy)(r f:Bool):Blk:=.box [.msl 1 1 0 6,.d (.sl (!r) 2 (iF C.needs)),.d (.sl (!r) 1 (encS C.names)),.d (.sl (!r) 5 (C.fields.map gy.enc)),.d (.sl f 5 (C.fn.map gy.enc))]
abbrev boxM(p:ik):Blk:=.box (p.enc.map .d)
abbrev KC(L R:List ik)(lb:Int)(i:Nat):List (Nat × AV):=[(10,.c (.d (.int .i64 i))),(9,.c (.d (.sl false 6 (R.map ik.enc)))),(8,.c (.d (.sl false 6 (L.map ik.enc)))),(7,.c (.ptr 2 0)),(6,.c (.ptr 0 0)),(2,.c (.d (.int .i64 lb)))]
theorem zmS{c:Ctx}(hp:c.pure)(L R:List ik)(lb:Int)(i:Nat)(m:ik)(T:List Int)(C:gy)(r f:Bool)(hR:R.length<=1000){Q:Exit->St->Prop}{S:St}{g}{ms:List Nat}
  (h0:iM ms S ((12,.c (.d (.int .i64 0)))::(11,.c (.ptr 3 0))::KC L R lb i) [CG,wo T,xq C r f,boxM m])
  (hQ:∀k,k<=R.length->(∀hk:k<R.length,jv R m.tag=(R[k],true))->(k=R.length->jv R m.tag=(JC,false))->∀T',Abs.look T' 12=.c (.d (.int .i64 k))->Abs.look T' 11=.c (.ptr 3 0)->Abs.look T' 10=.c (.d (.int .i64 i))->Abs.look T' 9=.c (.d (.sl false 6 (R.map ik.enc)))->Abs.look T' 8=.c (.d (.sl false 6 (L.map ik.enc)))->Abs.look T' 7=.c (.ptr 2 0)->Abs.look T' 6=.c (.ptr 0 0)->Abs.look T' 2=.c (.d (.int .i64 lb))->Q (.exit 2) ⟨T',hpOf [CG,wo T,xq C r f,boxM m],4⟩):lU Pg c PK Q g S:=by
 refine fU iC hp (λk:Nat=>k<=R.length/\(R.drop k).find? (λp=>decide (p.tag=m.tag))=R.find? λp=>decide (p.tag=m.tag)) (λk=>(12,.c (.d (.int .i64 k)))::(11,.c (.ptr 3 0))::KC L R lb i) (λ_=>[CG,wo T,xq C r f,boxM m]) (λk=>R.length-k) 0 ms ⟨by simp,by simp⟩ h0 λk ⟨h1,h2⟩=>?_;obtain⟨d1,d2,d3⟩:=zk0 h2;unfold PK;by_cases hk:k<R.length
 ·by_cases e:R[k].tag=m.tag
  ·simp[hk,e];refine⟨by decide,hQ k h1 (λhk=>d1 hk e) (λq=>by omega) _ (by simp) (by simp) (by simp) (by simp) (by simp) (by simp) (by simp) (by simp)⟩
  ·simp[hk,e];refine⟨by decide,fJ (k+1) [0,1,2,3] ⟨by omega,d2 hk e⟩ (by omega) ?_⟩;simp;exact wI
 ·have e:k=R.length:=by omega
  subst e;simp;exact⟨by decide,hQ _ h1 (λhk=>absurd hk (by omega)) d3 _ (by simp) (by simp) (by simp) (by simp) (by simp) (by simp) (by simp) (by simp)⟩
structure CJ (v:gq->gq->Int->gy) (L R:List ik) (lb:Int):Prop where
 dis:(L.map (·.tag)).Nodup
 tag:∀m,m∈L->0<=m.tag/\m.tag<6
 fn:∀m n,m∈L->n∈R->m.tag=5->n.tag=5->m.t.kids.length=2/\n.t.kids.length=2/\gu Pg 67 [.agg (jU n.t).enc,.agg (jU m.t).enc,.one (.int .i64 (mV lb))] (.agg (v (jU n.t) (jU m.t) (mV lb)).enc)/\gu Pg 67 [.agg (jV m.t).enc,.agg (jV n.t).enc,.one (.int .i64 lb)] (.agg (v (jV m.t) (jV n.t) lb).enc)
 rc:∀m n,m∈L->n∈R->m.tag=4->n.tag=4->m.t.names.length<=m.t.kids.length/\n.t.names.length<=n.t.kids.length/\m.t.kids.length<=1000/\n.t.kids.length<=1000/\
  (∀a,a∈m.t.kids->gu Pg 67 [.agg a.enc,.agg noT.enc,.one (.int .i64 lb)] (.agg (v a noT lb).enc))/\
  (∀k a,a∈n.t.kids->gu Pg 67 [.agg (je m.t k).1.enc,.agg a.enc,.one (.int .i64 lb)] (.agg (v (je m.t k).1 a lb).enc))
theorem zlV{c:Ctx}(hp:c.pure)(v:gq->gq->Int->gy)(L R:List ik)(lb:Int)(l0:0<=lb)(l1:lb<=9223372036854775807)(hL:L.length<=1000)(hR:R.length<=1000)(H:CJ v L R lb){Q:Exit->St->Prop}{S:St}{g}{ms:List Nat}
  (h0:iM ms S (KC L R lb 0) [CG,wo idC.tags,xq idC false true])
  (hQ:∀T r f,Abs.look T 6=.c (.ptr 0 0)->Abs.look T 7=.c (.ptr 2 0)->Q (.exit 0) ⟨T,hpOf [CG,wo (qc v R lb L idC).tags,xq (qc v R lb L idC) r f],3⟩):lU Pg c PL Q g S:=by
 obtain⟨F0,hF⟩:∃F0,qc v R lb L idC=F0:=⟨_,rfl⟩
 rw[hF]at hQ;refine fU iC hp (λx:Nat × gy × Bool × Bool=>x.1<=L.length/\qc v R lb (L.drop x.1) x.2.1=F0/\x.2.1.tags.length=6/\(x.2.2.1=false->x.2.1.needs=[]/\x.2.1.names=[]/\x.2.1.fields=[])/\(x.2.2.1=true->(4:Int)∈(L.map (·.tag)).take x.1)) (λx=>KC L R lb x.1) (λx=>[CG,wo x.2.1.tags,xq x.2.1 x.2.2.1 x.2.2.2]) (λx=>L.length-x.1) (0,idC,false,true) ms ⟨by simp,by simpa using hF,rfl,λ_=>⟨rfl,rfl,rfl⟩,λh=>by cases h⟩ h0 λ⟨i,C,r,f⟩ ⟨i1,i2,i3,i4,i5⟩=>?_;simp only at i1 i2 i3 i4 i5;unfold PL;by_cases hi:i<L.length
 ·rw [aF hi,qc]at i2;obtain⟨m,hx⟩:∃m,L[i]=m:=⟨_,rfl⟩
  have hm:m∈L:=by rw[<-hx];exact aP hi
  have hmt:=H.tag m hm;have hnot:m.tag∉(L.map (·.tag)).take i:=λq=>by
   have hd:=H.dis;rw[<-dC i (L.map (·.tag))]at hd;have hd:=(bX.1 hd).2.2 _ q m.tag (by rw[aF (by simpa using hi)];simp[hx]);exact hd rfl
  have hin:(L.map (·.tag)).take (i+1)=(L.map (·.tag)).take i++[m.tag]:=by rw[aJ (by simpa using hi)];simp[hx]
  rw[hx]at i2;have hx':L[i]?=some m:=by rw[aA hi,hx]
  simp[hi,hx];refine zmS hp L R lb i m C.tags C r f hR (ms:=[0,1,2,3]) (by simp) λk k1 k2 k3 T' t12 t11 t10 t9 t8 t7 t6 t2=>?_;have mt:m.tag=(m.tag.toNat:Int):=by omega
  by_cases hk:k<R.length
  ·have hpr:=k2 hk;have hn0:R[k]∈R:=aP hk;have hnt:R[k].tag=m.tag:=by have:=(DN (l:=R) (tag:=m.tag) (by rw[hpr])).2;rw[hpr]at this;exact this
   have hy':R[k]?=some R[k]:=aA hk;generalize R[k]=n at*
   have kne:¬((k:Int)=R.length):=by omega
   by_cases e5:m.tag=5
   ·have e4:¬m.tag=4:=by omega
    obtain⟨f1,f2,f3,f4⟩:=H.fn m n hm hn0 e5 (by omega);have m0:=Bp f1;have m1:=Aj f1;have n0:=Bp f2;have n1:=Aj f2;have hxf:=Jz l0 l1;simp[t12,t11,t10,t9,t8,t7,t6,t2,kne,hy',e5,n0.2,m0.2,hxf];refine gp f3 ?_;simp[t12,t11,t10,t9,t8,t7,t6,t2,n1.2,m1.2];refine gp f4 ?_;simp[t12,t11,t10,t9,t8,t7,t6,t2];refine gp (Jn _ _) ?_;simp[t12,t11,t10,t9,t8,t7,t6,t2,e5];refine⟨by decide,?_⟩;have hst:sU v R lb m C=BB C (lM (v (jU n.t) (jU m.t) (mV lb)) (v (jV m.t) (jV n.t) lb)):=by
     unfold sU;rw[e5]at hpr⊢;simp[hpr]
    rw[hst]at i2;refine fJ (i+1,BB C (lM (v (jU n.t) (jU m.t) (mV lb)) (v (jV m.t) (jV n.t) lb)),r,false) [0,1,2] ⟨by simp;omega,i2,i3,i4,λh=>by rw[hin];exact fG _ (i5 h)⟩ (by simp;omega) ?_;simp[t12,t11,t10,t9,t8,t7,t6,t2,BB,gy.tags,gy.needs,gy.names,gy.fields,gy.fn];exact wI
   ·by_cases e4:m.tag=4
    ·obtain⟨f1,f2,f3,f4,f5,f6⟩:=H.rc m n hm hn0 e4 (by omega);have hr:r=false:=by
      cases r with
      |false=>rfl
      |true=>exact absurd (i5 rfl) (by rw[<-e4];exact hnot)
     subst hr;obtain⟨c1,c2,c3⟩:=i4 rfl;have hC:wC C.tags C.fn=C:=by
      unfold wC;cases C;simp only[gy.needs,gy.names,gy.fields]at c1 c2 c3;subst c1;subst c2;subst c3;rfl
     have hst:sU v R lb m C=q9 v m n lb C:=by
      unfold sU;rw[e4]at hpr⊢;simp[hpr]
     rw[hst]at i2;have hrec:=zlj v m n lb C.tags (.sl f 5 (C.fn.map gy.enc)) f1 f2 f3 f4 f5 f6 C.fn;rw[hC,i3]at hrec;simp[t12,t11,t10,t9,t8,t7,t6,t2,kne,hy',e4,c1,c2,c3];refine gY [1] hrec (by simp[c1,c2,c3]) ?_;have hk:=KA v m n lb C;simp[t12,t11,t10,t9,t8,t7,t6,t2];refine fJ (i+1,q9 v m n lb C,true,f) [0,1,2] ⟨by simp;omega,i2,by rw[hk.1];exact i3,λh=>(by cases h),λ_=>by rw[hin,e4];simp⟩ (by simp;omega) ?_;simp[t12,t11,t10,t9,t8,t7,t6,t2,hk.1,hk.2];exact wI
    ·have hst:sU v R lb m C=C:=by
      unfold sU;simp[hpr,e4,e5]
     rw[hst]at i2;simp[t12,t11,t10,t9,t8,t7,t6,t2,kne,hy',e4,e5];refine fJ (i+1,C,r,f) [0,1,2] ⟨by simp;omega,i2,i3,i4,λh=>by rw[hin];exact fG _ (i5 h)⟩ (by simp;omega) ?_;simp[t12,t11,t10,t9,t8,t7,t6,t2];exact wI
  ·have ek:k=R.length:=by omega
   have hpr:=k3 ek;subst ek;have hj:m.tag.toNat<C.tags.length:=by omega
   have hst:sU v R lb m C=pg C m.tag.toNat lb:=by
    unfold sU;simp[hpr]
   rw[hst]at i2;simp[t12,t11,t10,t9,t8,t7,t6,t2,aA hj];refine⟨by omega,by omega,?_⟩;refine fJ (i+1,pg C m.tag.toNat lb,r,f) [0,1,2] ⟨by simp;omega,i2,by simpa[pg,gy.tags]using i3,i4,λh=>by rw[hin];exact fG _ (i5 h)⟩ (by simp;omega) ?_;simp[t12,t11,t10,t9,t8,t7,t6,t2,pg,gy.tags,gy.needs,gy.names,gy.fields,gy.fn,Jk];refine⟨wI,λx hx=>?_⟩;rcases dV hx with hx|hx
   ·obtain⟨y,_,rfl⟩:=aa.1 hx;simp
   ·rw[hx];simp
 ·have ei:i=L.length:=by omega
  subst ei;rw[aO,qc]at i2;subst i2;simp;exact hQ _ _ _ (by simp) (by simp)
mutual
def oZ:gq->Prop
|.mk k _ s l=>s.Pairwise jY/\(k=7->(l.map iN).Pairwise (· < ·)/\2<=l.length)/\BC l
def BC:List gq->Prop
|[]=>True
|t::l=>oZ t/\BC l
end
theorem Z6:∀l:List gq,BC l↔∀x,x∈l->oZ x
|[]=>by simp[BC]
|t::l=>by simp[BC,Z6 l]
theorem wu(t:gq):oZ t↔t.names.Pairwise jY/\(t.kind=7->(t.kids.map iN).Pairwise (· < ·)/\2<=t.kids.length)/\∀x,x∈t.kids->oZ x:=by
 cases t;rw[oZ,Z6];try rfl
def NF(t:gq):Prop:=jG t/\oZ t
theorem NF.kid{t x:gq}(h:NF t)(hx:x∈t.kids):NF x:=⟨yH h.1 hx,((wu t).1 h.2).2.2 x hx⟩
theorem NF.base(k:Int)(h0:0<=k)(h4:k<=4):NF (bT k):=⟨vZ k h0 h4,by simp[oZ,bT,BC];omega⟩
theorem NF.no:NF noT:=NF.base 0 (by omega) (by omega)
theorem NF.bt5:NF (bT 5):=⟨(mI _).2 ⟨rfl,λx h=>(by cases h),.inr (.inl ⟨rfl,rfl,by decide,λx h=>(by cases h)⟩)⟩,by simp[oZ,bT,BC]⟩
theorem NF.fn{a b:gq}(ha:NF a)(hb:NF b):NF (.mk 6 (bs []) [] [a,b]):=⟨(mI _).2 ⟨rfl,λx h=>by
 simp only[gq.kids,aN,cO,fC]at h;rcases h with rfl|rfl
 ·exact ha.1
 ·exact hb.1,.inr (.inr (.inl ⟨rfl,rfl,rfl⟩))⟩,by simp[oZ,BC];exact⟨ha.2,hb.2⟩⟩
theorem Pq{t:gq}(h:jG t)(h0:t.kind≠0)(h7:t.kind≠7):iN t=t.kind-1/\1<=t.kind/\t.kind<=6:=by
 have hk:1<=t.kind/\t.kind<=6:=by
  rcases((mI t).1 h).2.2 with⟨a,b,_⟩|⟨a,_⟩|⟨a,_⟩|⟨a,_⟩<;>omega
 refine⟨?_,hk⟩;unfold iN;rw[aB (by omega)]
theorem Eh{t:gq}(h:NF t):((kF t).map (·.tag)).Nodup/\∀p,p∈kF t->0<=p.tag/\p.tag<6/\NF p.t/\(p.tag=5->p.t.kids.length=2)/\(∀x,x∈p.t.kids->jD x+(if t.kind=0 then 0 else 1)<=jD t)/\(p.tag=4->∀x,x∈p.t.kids->jD x+1<=jD t):=by
 have d1:=x9 t;unfold kF;by_cases h0:t.kind=0
 ·rw[aC h0];refine⟨by decide,λp hp=>?_⟩;have e0:jD noT=1:=rfl;simp only[aN,cO,fC]at hp;simp only[h0,aC];rcases hp with rfl|rfl|rfl|rfl|rfl|rfl
  ·exact⟨by decide,by decide,NF.base 1 (by omega) (by omega),λh=>absurd h (by decide),λx hx=>(by cases hx),λ_ x hx=>(by cases hx)⟩
  ·exact⟨by decide,by decide,NF.base 2 (by omega) (by omega),λh=>absurd h (by decide),λx hx=>(by cases hx),λ_ x hx=>(by cases hx)⟩
  ·exact⟨by decide,by decide,NF.base 3 (by omega) (by omega),λh=>absurd h (by decide),λx hx=>(by cases hx),λ_ x hx=>(by cases hx)⟩
  ·exact⟨by decide,by decide,NF.base 4 (by omega) (by omega),λh=>absurd h (by decide),λx hx=>(by cases hx),λ_ x hx=>(by cases hx)⟩
  ·exact⟨by decide,by decide,NF.bt5,λh=>absurd h (by decide),λx hx=>(by cases hx),λ_ x hx=>(by cases hx)⟩
  ·refine⟨by decide,by decide,NF.fn NF.no NF.no,λ_=>rfl,λx hx=>?_,λh=>absurd h (by decide)⟩;simp only[gq.kids,aN,cO,fC]at hx;rcases hx with rfl|rfl<;>omega
 ·rw [aB h0];by_cases h7:t.kind=7
  ·rw[aB (by omega)];have ho:=((wu t).1 h.2).2.1 h7;refine⟨?_,λp hp=>?_⟩
   ·rw[bv];have he:((λx:ik=>x.tag)∘λk=>(⟨iN k,false,k⟩:ik))=iN:=rfl;rw[he];exact ho.1.imp λh=>by omega
   ·obtain⟨x,hx,rfl⟩:=aa.1 hp;have hk:1<=x.kind/\x.kind<=6:=by
     rcases((mI t).1 h.1).2.2 with⟨_,q,_⟩|⟨q,_⟩|⟨q,_⟩|⟨_,_,_,q⟩
     ·omega
     ·omega
     ·omega
     ·exact q x hx
    have ht:=(Pq (h.kid hx).1 (by omega) (by omega)).1;simp only;have hd:∀y,y∈x.kids->jD y+1<=jD t:=λy hy=>by
     have:=wV hy;have:=wV hx;omega
    refine⟨by omega,by omega,h.kid hx,λq=>EZ (h.kid hx).1 (by omega),λy hy=>?_,λ_=>hd⟩;rw[aB h0];exact hd y hy
  ·rw[aC h7];refine⟨by simp,λp hp=>?_⟩;simp only[aK]at hp;subst hp;have ht:=Pq h.1 h0 h7;simp only;refine⟨by omega,by omega,h,λq=>EZ h.1 (by omega),λy hy=>?_,λ_ y hy=>wV hy⟩;have:=wV hy;rw[aB h0];omega
theorem zmT(a b:gq)(lb:Int)(ha:a.kind=0)(hb:b.kind=0):gu Pg 67 [.agg a.enc,.agg b.enc,.one (.int .i64 lb)] (.agg idC.enc):=by
 refine Yb (by simp) λo c hN hp=>?_;unfold PM;simp;refine gU [] D5 ?_;simp[ha,hb];refine fe [1] ?_;have h6:6<=lL.length:=by decide
 have ht:(encI lL).take 6=encI lL:=rfl;simp[pI,jc,h6,ht,idC,gy.enc,iF,encS,gy.encs];rfl
theorem Ps(v:gq->gq->Int->gy)(R:List ik)(lb:Int):∀(L:List ik) (C:gy),(qc v R lb L C).tags.length=C.tags.length
|[],C=>rfl
|m::l,C=>by
 rw[qc,Ps v R lb l];unfold sU;split
 ·simp[pg,gy.tags]
 split
 ·rfl
 split
 ·rw[(KA _ _ _ _ _).1]
 ·rfl
theorem zmU(v:gq->gq->Int->gy)(a b:gq)(lb:Int)(wa:jG a)(wb:jG b)(hne:¬(a.kind=0/\b.kind=0))(l0:0<=lb)(l1:lb<=9223372036854775807)(H:CJ v (kF a) (kF b) lb):
  gu Pg 67 [.agg a.enc,.agg b.enc,.one (.int .i64 lb)] (.agg (qc v (kF b) lb (kF a) idC).enc):=by
 refine Yb (by simp) λo c hN hp=>?_;have hL:(kF a).length<=1000:=by have:=ve wa;have:=N7 a;omega
 have hR:(kF b).length<=1000:=by have:=ve wb;have:=N7 b;omega
 have h6:=Ps v (kF b) lb (kF a) idC;have h6':idC.tags.length=6:=rfl;rw[h6']at h6;have hcs:¬a.kind=0\/(a.kind=0/\¬b.kind=0):=by omega
 have hP1:=DL a (by have:=ve wa;omega);have hP2:=DL b (by have:=ve wb;omega);have e6:wo idC.tags=wo lL:=rfl;have hloop:=λ(Q:Exit->St->Prop) (S:St) (ms:List Nat)=>zlV (Q:=Q) (S:=S) (g:={}) (ms:=ms) hp v (kF a) (kF b) lb l0 l1 hL hR H;generalize kF a=L at*
 generalize kF b=R at*
 obtain⟨F0,hF⟩:∃F0,qc v R lb L idC=F0:=⟨_,rfl⟩
 rw[hF]at hloop h6⊢;have ht:(encI F0.tags).take 6=encI F0.tags:=aD (by simp;omega);have hle:6<=F0.tags.length:=by omega
 unfold PM;simp;refine gU [] D5 ?_;simp;rcases hcs with a0|⟨a0,b0⟩
 ·simp[a0];refine gp hP1 ?_;simp;refine gp hP2 ?_;simp;refine hloop _ _ [0,1,2] (by simp[idC,gy.tags,gy.needs,gy.names,gy.fields,gy.fn,iF,encS,lL]) λT r f t6 t7=>?_;simp[t6,t7];refine fe [1] ?_;simp[pI,jc,iT,t6,t7,ht,hle,gy.enc_eq]
 ·simp[a0,b0];refine gp hP1 ?_;simp;refine gp hP2 ?_;simp;refine hloop _ _ [0,1,2] (by simp[idC,gy.tags,gy.needs,gy.names,gy.fields,gy.fn,iF,encS,lL]) λT r f t6 t7=>?_;simp[t6,t7];refine fe [1] ?_;simp[pI,jc,iT,t6,t7,ht,hle,gy.enc_eq]
theorem Pt{lb:Int}(h0:0<=lb)(h1:lb<=9223372036854775807):0<=mV lb/\mV lb<=9223372036854775807:=by unfold mV;split<;>omega
theorem NF.field{t:gq}(h:NF t)(k:fI):NF (je t k).1/\((je t k).1∈t.kids\/(je t k).1=noT):=by
 cases q:(je t k).2 with
 |true=>have hm:=JK t.names t.kids k q;exact⟨h.kid hm,.inl hm⟩
 | false=>
  have:(je t k).1=noT:=by
   have hz:∀(ns:List fI) (ks:List gq),(oJ ns ks k).2=false->(oJ ns ks k).1=noT:=λns=>by
    induction ns with
    |nil=>intro ks _;rw[oJ];intros;contradiction
    | cons n ns ih=>
     intro ks;cases ks with
     |nil=>intro _;rw[oJ];intros;contradiction
     |cons x ks=>
      rw[oJ];split
      ·intro h;cases h
      ·exact ih ks
   exact hz _ _ q
  rw[this];exact⟨NF.no,.inr rfl⟩
theorem Gw:∀(n:Nat) (a b:gq) (lb:Int),NF a->NF b->jD a+jD b<=n->0<=lb->lb<=9223372036854775807->gu Pg 67 [.agg a.enc,.agg b.enc,.one (.int .i64 lb)] (.agg (qd n a b lb).enc)
|0,a,b,lb,_,_,h,_,_=>by have:=x9 a;omega
| n +1,a,b,lb,na,nb,hd,l0,l1=>by
 rw[qd];by_cases hne:a.kind=0/\b.kind=0
 ·rw[aC hne];exact zmT a b lb hne.1 hne.2
 ·rw[aB hne];have pa:=Eh na;have pb:=Eh nb;have fr:=Pt l0 l1;have e0:jD noT=1:=rfl;have hda:=x9 a;have hdb:=x9 b;have hsum:(if a.kind=0 then 0 else 1)+(if b.kind=0 then 0 else 1)≥1:=by split<;>split<;>omega
  have step:∀p q x y,p∈kF a->q∈kF b->x∈p.t.kids->y∈q.t.kids->jD x+jD y<=n:=λp q x y hp hq hx hy=>by
   have:=(pa.2 p hp).2.2.2.2.1 x hx;have:=(pb.2 q hq).2.2.2.2.1 y hy;omega
  refine zmU (qd n) a b lb na.1 nb.1 hne l0 l1 ⟨pa.1,λm hm=>⟨(pa.2 m hm).1,(pa.2 m hm).2.1⟩,λm q hm hq h5 h5'=>?_,λm q hm hq h4 h4'=>?_⟩
  ·have m2:=(pa.2 m hm).2.2.2.1 h5;have q2:=(pb.2 q hq).2.2.2.1 h5';have nm:=(pa.2 m hm).2.2.1;have nq:=(pb.2 q hq).2.2.1;have m0:=(Bp m2).1;have m1:=(Aj m2).1;have q0:=(Bp q2).1;have q1:=(Aj q2).1;exact⟨m2,q2,Gw n _ _ _ (nq.kid q0) (nm.kid m0) (by have:=step m q _ _ hm hq m0 q0;omega) fr.1 fr.2,Gw n _ _ _ (nm.kid m1) (nq.kid q1) (step m q _ _ hm hq m1 q1) l0 l1⟩
  ·have nm:=(pa.2 m hm).2.2.1;have nq:=(pb.2 q hq).2.2.1;refine⟨Fw nm.1,Fw nq.1,by have:=ve nm.1;omega,by have:=ve nq.1;omega,λx hx=>?_,λk x hx=>?_⟩
   ·have hk:=(pa.2 m hm).2.2.2.2.2 h4 x hx;refine Gw n _ _ _ (nm.kid hx) NF.no ?_ l0 l1;rw[e0];omega
   ·have hk:=(pb.2 q hq).2.2.2.2.2 h4' x hx;refine Gw n _ _ _ (nm.field k).1 (nq.kid hx) ?_ l0 l1;rcases(nm.field k).2 with h|h
    ·exact step m q _ _ hm hq h hx
    ·rw[h,e0];omega
structure RI (C:gy) (ns:List fI):Prop where
 len:C.names.length=C.fields.length
 names:C.names.Pairwise jY
 fields:∀x,x∈C.fields->iU x=true/\x≠idC/\lw 16 x
 needs:(∀x,x∈C.needs->x.2≠0)/\(C.needs.map (·.1)).Nodup
 an:∀x,x∈C.names->∀k,k∈ns->jY x k
 ad:∀x,x∈C.needs->∀k,k∈ns->jY x.1 k
theorem RI.put{C:gy}{k:fI}{ns:List fI}(h:RI C (k::ns))(hk:(k::ns).Pairwise jY){d:gy}(hd:iU d=true)(sd:lw 16 d):RI (jB C k d) ns/\(jB C k d).names.length<=C.names.length+1/\(jB C k d).needs=C.needs:=by
 have hk':=bL.1 hk;have h0:RI C ns:=⟨h.len,h.names,h.fields,h.needs,λx hx k hk=>h.an x hx k (by simp[hk]),λx hx k hk=>h.ad x hx k (by simp[hk])⟩
 unfold jB;split
 ·exact⟨h0,by omega,rfl⟩
 ·rename_i q;refine⟨⟨?_,?_,?_,h.needs,?_,h0.ad⟩,?_,rfl⟩
  ·simpa[gy.names,gy.fields]using h.len
  ·simp only[gy.names];exact bU.2 ⟨h.names,by simp,λx hx y hy=>by rw[aK.1 hy];exact h.an x hx k (by simp)⟩
  ·intro x hx;simp only[gy.fields,aM,aK]at hx;rcases hx with hx|rfl
   ·exact h.fields x hx
   ·exact⟨hd,λe=>q ((Aw _ _).2 e),sd⟩
  ·intro x hx y hy;simp only[gy.names,aM,aK]at hx;rcases hx with hx|rfl
   ·exact h0.an x hx y hy
   ·exact hk'.1 y hy
  ·simp[gy.names]
theorem RI.tail{C:gy}{k:fI}{ns:List fI}(h:RI C (k::ns)):RI C ns:=⟨h.len,h.names,h.fields,h.needs,λx hx k hk=>h.an x hx k (by simp[hk]),λx hx k hk=>h.ad x hx k (by simp[hk])⟩
section
variable {v:gq->gq->Int->gy} {lb:Int} (l2:2<=lb) (hv:∀x y,NF x->NF y->iU (v x y lb)=true/\lw 16 (v x y lb))
include hv in
theorem Z7:∀(ns:List fI) (ks:List gq) (C:gy),ns.Pairwise jY->(∀x,x∈ks->NF x)->RI C ns->RI (nS v lb ns ks C) []/\(nS v lb ns ks C).names.length<=C.names.length+ns.length/\(nS v lb ns ks C).needs=C.needs
|[],ks,C,_,_,h=>by rw[nS];exact⟨h,by omega,rfl⟩;intros;contradiction
|n::ns,[],C,_,_,h=>by rw[nS];exact⟨⟨h.len,h.names,h.fields,h.needs,λ_ _ k hk=>(by cases hk),λ_ _ k hk=>(by cases hk)⟩,by omega,rfl⟩;intros;contradiction
|n::ns,k::ks,C,hn,hk,h=>by
 rw[nS];have h1:=hv k noT (hk k (by simp)) NF.no;obtain⟨g1,g2,g3⟩:=h.put hn h1.1 h1.2;have h2:=Z7 ns ks (jB C n (v k noT lb)) (bL.1 hn).2 (λx hx=>hk x (by simp[hx])) g1;exact⟨h2.1,by have:=h2.2.1;simp only[length_cons];omega,h2.2.2.trans g3⟩
include l2 in
theorem RI.need{C:gy}{k:fI}{ns:List fI}(h:RI C (k::ns)):(∀x,x∈C.names->jY x k)/\((mh C k lb).needs.map (·.1)).Nodup/\(∀x,x∈(mh C k lb).needs->x.2≠0):=by
 refine⟨λx hx=>h.an x hx k (by simp),?_,λx hx=>?_⟩
 ·rw[zm,dW];refine bX.2 ⟨h.needs.2,by simp,λx hx y hy e=>?_⟩;obtain⟨z,hz,rfl⟩:=aa.1 hx;simp only[map_cons,map_nil,aK]at hy;have:=h.ad z hz k (by simp);rw[e,hy]at this;exact zl _ this
 ·rw[zm,aM,aK]at hx;rcases hx with hx|rfl
  ·exact h.needs.1 x hx
  ·simp only;omega
include l2 hv in
theorem Z8(m:ik)(nm:NF m.t):∀(ns:List fI) (ks:List gq) (C:gy),ns.Pairwise jY->(∀x,x∈ks->NF x)->RI C ns->RI (nT v m lb ns ks C) []/\(nT v m lb ns ks C).names.length<=C.names.length+ns.length/\(nT v m lb ns ks C).needs.length<=C.needs.length+ns.length
|[],ks,C,_,_,h=>by rw[nT];exact⟨h,by omega,by omega⟩;intros;contradiction
|n::ns,[],C,_,_,h=>by rw[nT];exact⟨⟨h.len,h.names,h.fields,h.needs,λ_ _ k hk=>(by cases hk),λ_ _ k hk=>(by cases hk)⟩,by omega,by omega⟩;intros;contradiction
| n ::ns,k::ks,C,hn,hk,h=>by
 rw[nT];have hn':=bL.1 hn;have h1:=hv (je m.t n).1 k (nm.field n).1 (hk k (by simp));generalize v (je m.t n).1 k lb=d at*
 obtain⟨C2,hC2⟩:∃C2,(if(je m.t n).2=true\/m.opn=true then jB (if(je m.t n).2=false then mh C n lb else C) n d else(if(je m.t n).2=false then mh C n lb else C))=C2:=⟨_,rfl⟩
 show RI (nT v m lb ns ks _) []/\_;have key:RI C2 ns/\C2.names.length<=C.names.length+1/\C2.needs.length<=C.needs.length+1:=by
  have hP:RI (jB C n d) ns/\(jB C n d).names.length<=C.names.length+1/\(jB C n d).needs=C.needs:=h.put hn h1.1 h1.2;have hN:=h.need l2;by_cases q:(je m.t n).2=false
  ·rw[aC q]at hC2;have e1:∀D:gy,RI D ns->D.needs=C.needs->RI (mh D n lb) ns:=λD hD eD=>by
    have hdn:(mh D n lb).needs=(mh C n lb).needs:=by rw[zm,zm,eD]
    refine⟨hD.len,hD.names,hD.fields,by rw[hdn];exact⟨hN.2.2,hN.2.1⟩,hD.an,λx hx y hy=>?_⟩;rw[zm,aM,aK]at hx;rcases hx with hx|rfl
    ·exact hD.ad x hx y hy
    ·exact hn'.1 y hy
   by_cases o:(je m.t n).2=true\/m.opn=true
   ·rw[aC o]at hC2;have e2:jB (mh C n lb) n d=mh (jB C n d) n lb:=by
     unfold jB mh;split<;>rfl
    rw[<-hC2,e2];exact⟨e1 _ hP.1 hP.2.2,hP.2.1,by rw[zm,hP.2.2];simp⟩
   ·rw[aB o]at hC2;rw[<-hC2];exact⟨e1 _ h.tail rfl,by simp,by simp⟩
  ·rw[aB q]at hC2;have o:(je m.t n).2=true\/m.opn=true:=.inl (by simpa using q);rw[aC o]at hC2;rw[<-hC2];exact⟨hP.1,hP.2.1,by rw[hP.2.2];omega⟩
 rw[hC2];have h2:=Z8 m nm ns ks C2 hn'.2 (λx hx=>hk x (by simp[hx])) key.1;exact⟨h2.1,by have:=h2.2.1;simp only[length_cons];omega,by have:=h2.2.2;simp only[length_cons];omega⟩
include l2 hv in
theorem zIV(m n:ik)(nm:NF m.t)(nn:NF n.t)(C:gy)(c1:C.needs=[])(c2:C.names=[])(c3:C.fields=[]):
  RI (q9 v m n lb C) []/\(q9 v m n lb C).names.length<=16/\(q9 v m n lb C).needs.length<=16:=by
 have h0:∀ns,RI C ns:=λns=>⟨by rw[c2,c3];rfl,by rw[c2];simp,(by rw[c3];intro x hx;cases hx),by rw[c1];exact⟨λx hx=>(by cases hx),by simp⟩,(by rw[c2];intro x hx;cases hx),(by rw[c1];intro x hx;cases hx)⟩
 have hm:=Bo nm.1;have hn:=Bo nn.1;unfold q9;split
 ·split
  ·exact⟨h0 [],by rw[c2];simp,by rw[c1];simp⟩
  ·have h:=Z7 hv m.t.names m.t.kids C ((wu _).1 nm.2).1 (λx hx=>nm.kid hx) (h0 _);exact⟨h.1,by have:=h.2.1;rw[c2]at this;simp only[length_nil]at this;omega,by rw[h.2.2,c1];simp⟩
 ·have h:=Z8 l2 hv m nm n.t.names n.t.kids C ((wu _).1 nn.2).1 (λx hx=>nn.kid hx) (h0 _);exact⟨h.1,by have:=h.2.1;rw[c2]at this;simp only[length_nil]at this;omega,by have:=h.2.2;rw[c1]at this;simp only[length_nil]at this;omega⟩
end
theorem Pv(C:gy)(i:Nat)(x:Int)(j:Nat)(h:j≠i):iE (pg C i x) j=iE C j:=by
 unfold iE pg;simp only[gy.tags,aH];rw[getElem?_set_ne (Ne.symm h)]
structure MI (C:gy) (done:List Int):Prop where
 may:May C
 n4:(4:Int)∉done->iE C 4=0/\C.needs=[]/\C.names=[]/\C.fields=[]
 n5:(5:Int)∉done->iE C 5=0/\C.fn=[]
 sm:lw 16 C
theorem MI.step{v:gq->gq->Int->gy}{R:List ik}{lb:Int}(l2:2<=lb)(hv:∀x y l,2<=l->NF x->NF y->iU (v x y l)=true/\lw 16 (v x y l)){C:gy}{done:List Int}{m:ik}(h:MI C done)(hm:m.tag∉done)(mt:0<=m.tag/\m.tag<6)(nm:NF m.t)(m5:m.tag=5->m.t.kids.length=2)
  (hR:∀p,p∈R->NF p.t/\(p.tag=5->p.t.kids.length=2)):MI (sU v R lb m C) (done++[m.tag]):=by
 have hsm:=(zG _ _).1 h.sm;unfold sU;split
 ·have h4:m.tag.toNat≠4->iE (pg C m.tag.toNat lb) 4=iE C 4:=λq=>Pv _ _ _ _ (Ne.symm q);have h5:m.tag.toNat≠5->iE (pg C m.tag.toNat lb) 5=iE C 5:=λq=>Pv _ _ _ _ (Ne.symm q);refine⟨⟨by simpa[pg,gy.tags]using h.may.tags,h.may.len,h.may.fn,λq=>?_,λq=>?_,h.may.needs,h.may.names,h.may.fields⟩,λq=>?_,λq=>?_,?_⟩
  ·by_cases e:m.tag=4
   ·exact(h.n4 (e▸hm)).2.2.1
   ·rw[h4 (by omega)]at q;exact h.may.t4 q
  ·by_cases e:m.tag=5
   ·exact(h.n5 (e▸hm)).2
   ·rw[h5 (by omega)]at q;exact h.may.t5 q
  ·simp only[aM,aK,dU]at q;rw[h4 (by omega)];exact h.n4 q.1
  ·simp only[aM,aK,dU]at q;rw[h5 (by omega)];exact h.n5 q.1
  ·exact(zG _ _).2 hsm
 rename_i q;have hq:∀t,m.tag=t->(jv R t).1∈R/\(jv R t).1.tag=t:=λt e=>by
  subst e;exact DN (by simpa using q)
 split
 ·rename_i e5;have hp:=hq 5 e5;have nq:=hR _ hp.1;have m2:=m5 e5;have q2:=nq.2 hp.2;have f0:=hv (jU (jv R 5).1.t) (jU m.t) (mV lb) (by unfold mV;split<;>omega) (nq.1.kid (Bp q2).1) (nm.kid (Bp m2).1);have f1:=hv (jV m.t) (jV (jv R 5).1.t) lb l2 (nm.kid (Aj m2).1) (nq.1.kid (Aj q2).1);have n5:=h.n5 (e5▸hm);generalize v (jU (jv R 5).1.t) (jU m.t) (mV lb)=f at*
  generalize v (jV m.t) (jV (jv R 5).1.t) lb=g at*
  refine⟨⟨h.may.tags,h.may.len,?_,h.may.t4,λq=>absurd n5.1 q,h.may.needs,h.may.names,h.may.fields⟩,λq=>?_,λq=>?_,?_⟩
  ·show lM f g=[]\/∃f' g',lM f g=[f',g']/\_;unfold lM;split
   ·exact .inl rfl
   ·rename_i e;refine .inr ⟨f,g,rfl,f0.1,f1.1,λx=>e ?_⟩;rw[x.1,x.2,Gn];try rfl
  ·simp only[aM,aK,dU]at q;exact h.n4 q.1
  ·exact absurd (by rw[e5];simp) q
  ·refine(zG _ _).2 ⟨hsm.1,hsm.2.1,?_,hsm.2.2.2.1,?_⟩
   ·show(lM f g).length<=16;unfold lM;split<;>simp
   ·intro x hx;have hx:x∈lM f g:=hx;unfold lM at hx;split at hx
    ·cases hx
    ·simp only[aN,cO,fC]at hx;rcases hx with rfl|rfl
     ·exact f0.2
     ·exact f1.2
 split
 ·rename_i e5 e4;have hp:=hq 4 e4;have nq:=(hR _ hp.1).1;obtain⟨c0,c1,c2,c3⟩:=h.n4 (e4▸hm);have hr:=zIV l2 (λx y nx ny=>hv x y lb l2 nx ny) m (jv R 4).1 nm nq C c1 c2 c3;have hk:=KA v m (jv R 4).1 lb C;generalize q9 v m (jv R 4).1 lb C=C' at*
  have hz:∀i,iE C' i=iE C i:=λi=>by unfold iE;rw[hk.1]
  refine⟨⟨by rw[hk.1];exact h.may.tags,hr.1.len,by rw[hk.2];exact h.may.fn,λq=>absurd (by rw[hz];exact c0) q,λq=>by rw[hz]at q;rw[hk.2];exact h.may.t5 q,hr.1.needs,hr.1.names,λx hx=>⟨(hr.1.fields x hx).1,(hr.1.fields x hx).2.1⟩⟩,λq=>absurd (by rw[e4];simp) q,λq=>?_,?_⟩
  ·simp only[aM,aK,dU]at q;rw[hz,hk.2];exact h.n5 q.1
  ·exact(zG _ _).2 ⟨hr.2.2,by rw[<-hr.1.len];exact hr.2.1,by rw[hk.2];exact hsm.2.2.1,λx hx=>(hr.1.fields x hx).2.2,by rw[hk.2];exact hsm.2.2.2.2⟩
 ·rename_i e5 e4;refine⟨h.may,λq=>?_,λq=>?_,h.sm⟩
  ·simp only[aM,aK,dU]at q;exact h.n4 q.1
  ·simp only[aM,aK,dU]at q;exact h.n5 q.1
theorem MI.all{v:gq->gq->Int->gy}{R:List ik}{lb:Int}(l2:2<=lb)(hv:∀x y l,2<=l->NF x->NF y->iU (v x y l)=true/\lw 16 (v x y l))(hR:∀p,p∈R->NF p.t/\(p.tag=5->p.t.kids.length=2)):∀(L:List ik) (C:gy) (done:List Int),MI C done->(done++L.map (·.tag)).Nodup->(∀p,p∈L->0<=p.tag/\p.tag<6/\NF p.t/\(p.tag=5->p.t.kids.length=2))->∃d,MI (qc v R lb L C) d
|[],C,done,h,_,_=>⟨done,h⟩
|m::L,C,done,h,hn,hL=>by
 rw[qc];have hm:=hL m (by simp);have hnot:m.tag∉done:=λq=>(bX.1 hn).2.2 _ q m.tag (by simp) rfl;exact MI.all l2 hv hR L _ (done++[m.tag]) (h.step l2 hv hnot ⟨hm.1,hm.2.1⟩ hm.2.2.1 hm.2.2.2 hR) (by simpa using hn) (λp hp=>hL p (by simp[hp]))
theorem Z9:∀(n:Nat) (a b:gq) (lb:Int),2<=lb->NF a->NF b->iU (qd n a b lb)=true/\lw 16 (qd n a b lb)
|0,a,b,lb,_,_,_=>⟨D7,Az _⟩
| n+1,a,b,lb,l2,na,nb=>by
 rw[qd];split
 ·exact⟨D7,Az _⟩
 ·have pa:=Eh na;have pb:=Eh nb;obtain⟨d,hd⟩:=MI.all l2 (λx y l hl nx ny=>Z9 n x y l hl nx ny) (λp hp=>⟨(pb.2 p hp).2.2.1,(pb.2 p hp).2.2.2.1⟩) (kF a) idC [] ⟨May.idC,λ_=>⟨Ay 4,rfl,rfl,rfl⟩,λ_=>⟨Ay 5,rfl⟩,Az _⟩ (by simpa using pa.1) (λp hp=>⟨(pa.2 p hp).1,(pa.2 p hp).2.1,(pa.2 p hp).2.2.1,(pa.2 p hp).2.2.2.1⟩);exact⟨(sI _).2 hd.may,hd.sm⟩
end Go.Gr
