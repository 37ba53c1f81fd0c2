/- Texts of ours, joined and written short by a program of ours. -/
import Derived.Test.YtnefbdgcccgodaaGreatJ13
import Derived.Test.YtnefbdgcccgodaaGreatJ07
import Derived.Test.YtnefbdgcccgodaaGreatJ09
set_option linter.unusedVariables false
set_option linter.unusedSimpArgs false
namespace Go.Gr
open Go.Abs Go.Proofs
theorem zlT:∀l m:List Nod,nszs (l++m)=nszs l+nszs m
 |[],m=>by simp[nszs]
 |n::l,m=>by rw[List.cons_append,nszs,nszs,zlT l m];omega
theorem zyb{l m:List Nod}(h:wfNs l)(k:wfNs m):wfNs (l++m):=(zf2 _).2 fun x hx=>by
 rcases List.mem_append.1 hx with hx|hx
 ·exact(zf2 _).1 h x hx
 ·exact(zf2 _).1 k x hx
section
variable {L:List Tok}
theorem zbS(p:PS)(k:Int)(t:ByteArray)(n:Int)(ts:List Typ)(ns:List ByteArray)(ks:List Nod):nsz (mkN L p k t n ts ns ks)=nszs ks+1:=by unfold mkN;rw[nsz]
theorem zcq(p:PS)(k:Int)(t:ByteArray)(n:Int)(ts:List Typ)(ns:List ByteArray)(ks:List Nod)(h:wfNs ks)(s:shN k ts ns ks):wfN (mkN L p k t n ts ns ks):=by unfold mkN;rw[wfN];exact⟨h,s⟩
theorem ks1{a:Nod}(h:wfN a):wfNs [a]:=⟨h,trivial⟩
theorem ks2{a b:Nod}(h:wfN a)(k:wfN b):wfNs [a,b]:=⟨h,k,trivial⟩
theorem ks3{a b c:Nod}(h:wfN a)(k:wfN b)(l:wfN c):wfNs [a,b,c]:=⟨h,k,l,trivial⟩
theorem z1(a:Nod):nszs [a]=nsz a:=by simp[nszs]
theorem z2(a b:Nod):nszs [a,b]=nsz a+nsz b:=by simp[nszs]
theorem z3(a b c:Nod):nszs [a,b,c]=nsz a+nsz b+nsz c:=by simp[nszs];omega
def Nice(L:List Tok)(f:PS->Nod × PS):Prop:=∀p,p.at'<L.length->wfN (f p).1/\nsz (f p).1+3*p.at'<=3*(f p).2.at'+1
theorem zrk{ki:PS->Typ × PS}(p:PS):(zbl L ki p).1.length<=1:=by
 unfold zbl
 split<;>simp
theorem zrl{ki:PS->Typ × PS}(p:PS):1<=(zbN L ki p).1.2.length/\(zbN L ki p).1.2.length<=2:=by
 unfold zbN
 simp only
 have a:=zrk (L:=L) (ki:=ki) (zav L (zay L (bs [40]) p)).2
 have b:=zrk (L:=L) (ki:=ki) (zay L (bs [41]) (zbl L ki (zav L (zay L (bs [40]) p)).2).2)
 rw[List.length_append]
 split
 ·simp only[List.length_cons,List.length_nil];omega
 ·omega
theorem zrm:wfN noN:=⟨trivial,.inl (.inl rfl)⟩
theorem zwh(hL:OkL L){ki:PS->Typ × PS}{ex rk:PS->Nod × PS}(hk:Tame L ki)(he:Tame L ex)(ne:Nice L ex)(nr:Nice L rk):Nice L (ze8 L ki ex rk):=fun p hp=>by
 unfold ze8
 split
 ·rename_i c
  have h1:=zag hL hp (s:=wLet)
  have h2:=h1.trans (zaI hL h1.lt)
  have h3:=h2.trans (zc1 hL hk _ h2.lt)
  have h4:=(zaI hL h1.lt).trans ((zc1 hL hk _ h2.lt).trans (zal hL h3.lt (s:=bs [61])))
  have n5:=ne _ h4.lt
  have h5:=he _ h4.lt
  have h6:=zal hL h5.lt (s:=bs [59])
  have n7:=ne _ h6.lt
  have t:=(take_at c).1
  refine⟨zcq _ _ _ _ _ _ _ (ks2 n5.1 n7.1) (by simp[shN]),?_⟩
  rw[zbS,z2]
  have:=h4.le
  have:=h6.le
  simp only at*
  omega
 split
 ·rename_i c
  have h1:=zag hL hp (s:=wIf)
  have n2:=ne _ h1.lt
  have h2:=he _ h1.lt
  have h3:=zal hL h2.lt (s:=ziL)
  have n4:=ne _ h3.lt
  have h4:=he _ h3.lt
  have h5:=zal hL h4.lt (s:=ziM)
  have n6:=ne _ h5.lt
  have t:=(take_at c).1
  refine⟨zcq _ _ _ _ _ _ _ (ks3 n2.1 n4.1 n6.1) (by simp[shN]),?_⟩
  rw[zbS,z3]
  have:=h3.le
  have:=h5.le
  simp only at*
  omega
 split
 ·rename_i c
  have h1:=zag hL hp (s:=wFn)
  have h2:=zeh hL hk _ h1.lt
  have h3:=h2.trans (zal hL h2.lt (s:=bs [61,62]))
  have n4:=ne _ h3.lt
  have t:=(take_at c).1
  have hh:=(zrl (L:=L) (ki:=ki) (zad L wFn p).2).1
  refine⟨zcq _ _ _ _ _ _ _ (ks1 n4.1) (by simp[shN];simpa using hh),?_⟩
  rw[zbS,z1]
  have:=h3.le
  simp only at*
  omega
 ·exact nr p hp
theorem zrn(hL:OkL L){rk:PS->Nod × PS}(hr:Tame L rk)(nr:Nice L rk)(signs:List ByteArray):∀(n:Nat) (a:Nod) (p:PS),p.at'<L.length->wfN a->wfN (opsP L rk signs n a p).1/\nsz (opsP L rk signs n a p).1+3*p.at'<=3*(opsP L rk signs n a p).2.at'+nsz a
 |0,a,p,hp,ha=>by rw[opsP];exact⟨ha,by show nsz a+3*p.at'<=3*p.at'+nsz a;omega⟩
 | n+1,a,p,hp,ha=>by
  rw[opsP]
  split
  ·exact⟨ha,by show nsz a+3*p.at'<=3*p.at'+nsz a;omega⟩
  ·rename_i s q h
   have h1:=zeR hL _ hp h
   have h2:=hr _ h1.1.lt
   have n2:=nr _ h1.1.lt
   have r:=zrn hL hr nr signs n (mkN L p 14 s 0 [] [] [a,(rk q).1]) (rk q).2 h2.lt (zcq _ _ _ _ _ _ _ (ks2 ha n2.1) (by simp[shN]))
   rw[zbS,z2]at r
   refine⟨r.1,?_⟩
   have:=h1.2.1
   omega
theorem zyc(hL:OkL L){ki:PS->Typ × PS}{rk:PS->Nod × PS}(hk:Tame L ki)(hr:Tame L rk)(nr:Nice L rk):Nice L (cmpP L ki rk):=fun p hp=>by
 have h1:=hr p hp
 have n1:=nr p hp
 unfold cmpP
 simp only
 split
 ·rename_i s q h
  have h2:=zeR hL _ h1.lt h
  have n3:=nr _ h2.1.lt
  refine⟨zcq _ _ _ _ _ _ _ (ks2 n1.1 n3.1) (by simp[shN]),?_⟩
  rw[zbS,z2]
  have:=h2.2.1
  simp only at*
  omega
 split
 ·rename_i c
  have t:=(take_at c).1
  have h2:=zag hL h1.lt (s:=bs [97,115])
  have h3:=hk _ h2.lt
  refine⟨zcq _ _ _ _ _ _ _ (ks1 n1.1) (by simp[shN]),?_⟩
  rw[zbS,z1]
  have:=h3.le
  simp only at*
  omega
 split
 ·rename_i c
  have t:=(take_at c).1
  have h2:=zag hL h1.lt (s:=bs [105,115])
  split
  ·rename_i i q h
   have h3:=zhC hL _ _ h2.lt h
   refine⟨zcq _ _ _ _ _ _ _ (ks1 n1.1) (by simp[shN]),?_⟩
   rw[zbS,z1]
   have:=h3.2.1
   simp only at*
   omega
  ·have h3:=zf1 (L:=L) (e:=7) h2.lt
   refine⟨zcq _ _ _ _ _ _ _ (ks1 n1.1) (by simp[shN]),?_⟩
   rw[zbS,z1]
   have:=h3.le
   simp only at*
   omega
 ·exact n1
theorem zwi(hL:OkL L){ki:PS->Typ × PS}{un:PS->Nod × PS}(hk:Tame L ki)(hu:Tame L un)(nu:Nice L un):Nice L (znd L ki un):=by
 obtain⟨t5,t4,t3,t2,t1,t0⟩:=zhF hL hk hu
 have op:∀(f:PS->Nod × PS) (signs:List ByteArray),Tame L f->Nice L f->Nice L (fun p=>opsP L f signs (L.length+1) (f p).1 (f p).2):=fun f signs tf nf p hp=>by
  have a:=nf p hp
  have r:=zrn hL tf nf signs (L.length+1) (f p).1 (f p).2 (tf p hp).lt a.1
  exact⟨r.1,by simp only;omega⟩
 have n5:Nice L (ziN L un):=op un (zbm 5) hu nu
 have n4:Nice L (ziO L un):=op _ (zbm 4) t5 n5
 have n3:Nice L (znc L un):=op _ (zbm 3) t4 n4
 have n2:Nice L (ziP L ki un):=zyc hL hk t3 n3
 have n1:Nice L (ziQ L ki un):=op _ (zbm 1) t2 n2
 exact op _ (zbm 0) t1 n1
theorem zo0{ki:PS->Typ × PS}:∀(n:Nat) (l:List Typ) (p:PS),(zco L ki n l p).1.length<=l.length+n
 |0,l,p=>by rw[zco];exact Nat.le_refl _
 | n+1,l,p=>by
  rw[zco]
  split
  ·have:=zo0 (ki:=ki) n (l++[(ki p).1]) (zad L (bs [44]) (ki p).2).2
   rw[List.length_append]at this
   simp only[List.length_cons,List.length_nil]at this
   omega
  ·simp only[List.length_append,List.length_cons,List.length_nil];omega
theorem zo1(hL:OkL L){ex:PS->Nod × PS}(he:Tame L ex)(ne:Nice L ex):∀(n:Nat) (ns:List ByteArray) (ks:List Nod) (p:PS),p.at'<L.length->wfNs ks->wfNs (zcp L ex n ns ks p).1.2/\nszs (zcp L ex n ns ks p).1.2+3*p.at'<=3*(zcp L ex n ns ks p).2.at'+nszs ks+1/\(zcp L ex n ns ks p).1.1.length<=ns.length+n
 |0,ns,ks,p,hp,hk=>by rw[zcp];exact⟨hk,by simp only;omega,by simp⟩
 | n+1,ns,ks,p,hp,hk=>by
  have h1:=zaI hL hp
  have h2:=h1.trans (zal hL h1.lt (s:=bs [58]))
  have h3:=he _ h2.lt
  have n3:=ne _ h2.lt
  have h4:=zag hL h3.lt (s:=bs [44])
  have e2:=h2.le
  have w:=zyb hk (ks1 n3.1)
  rw[zcp]
  split
  ·rename_i c
   have t:=(take_at c).1
   have r:=zo1 hL he ne n (ns++[(zav L p).1]) (ks++[(ex (zay L (bs [58]) (zav L p).2)).1]) _ h4.lt w
   rw[zlT,z1,List.length_append]at r
   simp only[List.length_cons,List.length_nil]at r
   refine⟨r.1,?_,by omega⟩
   omega
  ·refine⟨w,?_,by simp only[List.length_append,List.length_cons,List.length_nil];omega⟩
   rw[zlT,z1]
   have:=h4.le
   have:=n3.2
   try simp only at*
   omega
theorem zsb(hL:OkL L)(hl:L.length<=10000){ex:PS->Nod × PS}(he:Tame L ex)(ne:Nice L ex)(q p:PS)(hp:p.at'<L.length):wfN (zbJ L ex q p).1/\nsz (zbJ L ex q p).1+3*p.at'<=3*(zbJ L ex q p).2.at'+4:=by
 unfold zbJ
 split
 ·have h1:=zag hL hp (s:=bs [125])
  refine⟨zcq _ _ _ _ _ _ _ trivial (by simp[shN]),?_⟩
  rw[zbS]
  have:=h1.le
  simp only[nszs]
  omega
 split
 ·have h1:=he p hp
  have n1:=ne p hp
  have h2:=zal hL h1.lt (s:=ziR)
  have h3:=h2.trans (zaI hL h2.lt)
  have h4:=h3.trans (zal hL h3.lt (s:=bs [58]))
  have h5:=he _ h4.lt
  have n5:=ne _ h4.lt
  have h6:=zal hL h5.lt (s:=bs [125])
  refine⟨zcq _ _ _ _ _ _ _ (ks2 n1.1 n5.1) (by simp[shN]),?_⟩
  rw[zbS,z2]
  have:=h4.le
  have:=h6.le
  simp only at*
  omega
 ·have h1:=zhG hL he (L.length+1) [] [] p hp
  have n1:=zo1 hL he ne (L.length+1) [] [] p hp trivial
  have h2:=zal hL h1.lt (s:=bs [125])
  have e0:nszs []=0:=rfl
  rw[e0]at n1
  refine⟨zcq _ _ _ _ _ _ _ n1.1 (by have:=n1.2.2;simp only[List.length_nil]at this;simp[shN];omega),?_⟩
  rw[zbS]
  have:=h2.le
  have:=n1.2.1
  simp only at*
  omega
theorem zfn{p q:PS}{k:Int}{t:ByteArray}{n:Int}{ts:List Typ}{ns:List ByteArray}(hs:shN k ts ns [])(h:p.at'<=q.at'):wfN (mkN L p k t n ts ns [])/\nsz (mkN L p k t n ts ns [])+3*p.at'<=3*q.at'+1:=by
 refine⟨zcq _ _ _ _ _ _ _ trivial hs,?_⟩
 rw[zbS]
 simp only[nszs]
 omega
theorem zwj(hL:OkL L)(hl:L.length<=10000){ki:PS->Typ × PS}{ex:PS->Nod × PS}(hk:Tame L ki)(he:Tame L ex)(ne:Nice L ex):Nice L (zdE L ki ex):=fun p hp=>by
 unfold zdE
 by_cases c1:p.e=0/\(curT L p).kind=3
 ·rw[if_pos c1];exact zfn (by simp[shN]) (by simp only;omega)
 rw[if_neg c1]
 by_cases c2:p.e=0/\(curT L p).kind=4
 ·rw[if_pos c2];exact zfn (by simp[shN]) (by simp only;omega)
 rw[if_neg c2]
 by_cases c3:(zad L ziS p).1=true
 ·rw[if_pos c3];exact zfn (by simp[shN]) (zag hL hp).le
 rw[if_neg c3]
 by_cases c4:(zad L zgA p).1=true
 ·rw[if_pos c4];exact zfn (by simp[shN]) (zag hL hp).le
 rw[if_neg c4]
 by_cases c5:(zad L ziT p).1=true
 ·rw[if_pos c5];exact zfn (by simp[shN]) (zag hL hp).le
 rw[if_neg c5]
 by_cases c6:(zad L zeE p).1=true
 ·rw[if_pos c6]
  have h1:=zag hL hp (s:=zeE)
  have h2:=h1.trans (zal hL h1.lt (s:=bs [40]))
  exact zfn (by simp[shN]) (h2.trans (zal hL h2.lt)).le
 rw[if_neg c6]
 by_cases c7:(zad L zcW p).1=true
 ·rw[if_pos c7]
  have h1:=zag hL hp (s:=zcW)
  have h2:=zal hL h1.lt (s:=bs [40])
  have h3:=he _ h2.lt
  have n3:=ne _ h2.lt
  have h4:=zal hL h3.lt (s:=bs [41])
  have t:=(take_at c7).1
  refine⟨zcq _ _ _ _ _ _ _ (ks1 n3.1) (by simp[shN]),?_⟩
  rw[zbS,z1]
  have:=h2.le
  have:=h4.le
  simp only at*
  omega
 rw[if_neg c7]
 by_cases c8:(zad L (bs [40]) p).1=true
 ·rw[if_pos c8]
  have h1:=zag hL hp (s:=bs [40])
  have h2:=he _ h1.lt
  have n2:=ne _ h1.lt
  have h3:=zal hL h2.lt (s:=bs [41])
  have t:=(take_at c8).1
  refine⟨n2.1,?_⟩
  have:=n2.2
  have:=h3.le
  show nsz (ex (zad L (bs [40]) p).2).1+3*p.at'<=3*(zay L (bs [41]) (ex (zad L (bs [40]) p).2).2).at'+1
  omega
 rw[if_neg c8]
 by_cases c9:(zad L (bs [123]) p).1=true
 ·rw[if_pos c9]
  have h1:=zag hL hp (s:=bs [123])
  have r:=zsb hL hl he ne p _ h1.lt
  have t:=(take_at c9).1
  exact⟨r.1,by omega⟩
 rw[if_neg c9]
 have h1:=zaI hL hp
 by_cases c10:(zad L (bs [91]) (zav L p).2).1=true
 ·have h2:=h1.trans (zag hL h1.lt (s:=bs [91]))
  have h3:=h2.trans (zlF hL hk (L.length+1) [] _ h2.lt)
  have tl:=zo0 (L:=L) (ki:=ki) (L.length+1) [] (zad L (bs [91]) (zav L p).2).2
  show wfN (if(zad L (bs [91]) (zav L p).2).1=true then _ else _:Nod × PS).1/\nsz (if(zad L (bs [91]) (zav L p).2).1=true then _ else _:Nod × PS).1+3*p.at'<=3*(if(zad L (bs [91]) (zav L p).2).1=true then _ else _:Nod × PS).2.at'+1
  rw[if_pos c10]
  exact zfn (by simp only[List.length_nil]at tl;simp[shN];omega) h3.le
 ·show wfN (if(zad L (bs [91]) (zav L p).2).1=true then _ else _:Nod × PS).1/\nsz (if(zad L (bs [91]) (zav L p).2).1=true then _ else _:Nod × PS).1+3*p.at'<=3*(if(zad L (bs [91]) (zav L p).2).1=true then _ else _:Nod × PS).2.at'+1
  rw[if_neg c10]
  exact zfn (by simp[shN]) h1.le
theorem ziW(hL:OkL L){ex:PS->Nod × PS}(he:Tame L ex)(ne:Nice L ex):∀(n:Nat) (a:Nod) (p:PS),p.at'<L.length->wfN a->wfN (zb2 L ex n a p).1/\nsz (zb2 L ex n a p).1+3*p.at'<=3*(zb2 L ex n a p).2.at'+nsz a
 |0,a,p,hp,ha=>by rw[zb2];exact⟨ha,by show nsz a+3*p.at'<=3*p.at'+nsz a;omega⟩
 | n+1,a,p,hp,ha=>by
  rw[zb2]
  split
  ·rename_i c
   have t:=(take_at c).1
   have h1:=zag hL hp (s:=bs [40])
   have h2:=he _ h1.lt
   have n2:=ne _ h1.lt
   have h3:=zal hL h2.lt (s:=bs [41])
   have r:=ziW hL he ne n (mkN L p 7 (bs []) 0 [] [] [a,(ex (zad L (bs [40]) p).2).1]) _ h3.lt (zcq _ _ _ _ _ _ _ (ks2 ha n2.1) (by simp[shN]))
   rw[zbS,z2]at r
   refine⟨r.1,?_⟩
   have:=h3.le
   have:=n2.2
   have:=r.2
   simp only at*
   omega
  split
  ·rename_i c
   have t:=(take_at c).1
   have h1:=zag hL hp (s:=bs [46])
   have h2:=zaI hL h1.lt
   have r:=ziW hL he ne n (mkN L p 9 (zav L (zad L (bs [46]) p).2).1 0 [] [] [a]) _ h2.lt (zcq _ _ _ _ _ _ _ (ks1 ha) (by simp[shN]))
   rw[zbS,z1]at r
   refine⟨r.1,?_⟩
   have:=h2.le
   have:=r.2
   simp only at*
   omega
  ·exact⟨ha,by show nsz a+3*p.at'<=3*p.at'+nsz a;omega⟩
theorem zuv(hL:OkL L)(hl:L.length<=10000){ki:PS->Typ × PS}{ex un:PS->Nod × PS}(hk:Tame L ki)(he:Tame L ex)(ne:Nice L ex)(nu:Nice L un):Nice L (zdX L ki ex un):=fun p hp=>by
 unfold zdX
 split
 ·rename_i c
  have t:=(take_at c).1
  have h1:=zag hL hp (s:=bs [45])
  have n2:=nu _ h1.lt
  refine⟨zcq _ _ _ _ _ _ _ (ks1 n2.1) (by simp[shN]),?_⟩
  rw[zbS,z1]
  have:=n2.2
  simp only at*
  omega
 split
 ·rename_i c
  have t:=(take_at c).1
  have h1:=zag hL hp (s:=wNot)
  have n2:=nu _ h1.lt
  refine⟨zcq _ _ _ _ _ _ _ (ks1 n2.1) (by simp[shN]),?_⟩
  rw[zbS,z1]
  have:=n2.2
  simp only at*
  omega
 ·have a:=zwj hL hl hk he ne p hp
  have ta:=zkr hL hk he p hp
  have r:=ziW hL he ne (L.length+1) (zdE L ki ex p).1 (zdE L ki ex p).2 ta.lt a.1
  unfold ziU
  exact⟨r.1,by simp only;omega⟩
theorem zzo(hL:OkL L)(hl:L.length<=10000){ki:PS->Typ × PS}(hk:Tame L ki)(d:Nat):Nice L (euP L ki d).1/\Nice L (euP L ki d).2:=by
 induction d with
 |zero=>exact⟨fun p hp=>⟨zrm,by show 1+3*p.at'<=3*p.at'+1;omega⟩,fun p hp=>⟨zrm,by show 1+3*p.at'<=3*p.at'+1;omega⟩⟩
 | succ d ih=>
  have tm:=zmL hL hk d
  have dn:∀p:PS,p.at'<L.length->¬(zau L p).1=true->wfN noN/\nsz noN+3*p.at'<=3*(zau L p).2.at'+1:=fun p hp c=>by
   have:=(zkG (L:=L) hp).le
   rw[zir c]
   exact⟨zrm,by show 1+3*p.at'<=3*(zeD L p).at'+1;omega⟩
  have up:∀(f:PS->Nod × PS),Nice L f->∀p:PS,p.at'<L.length->(zau L p).1=true->wfN (zcn (f (zau L p).2)).1/\nsz (zcn (f (zau L p).2)).1+3*p.at'<=3*(zcn (f (zau L p).2)).2.at'+1:=fun f nf p hp c=>by
   have hp':(zau L p).2.at'<L.length:=by rw[(zb3 c).1];exact hp
   have r:=nf _ hp'
   have e:(zau L p).2.at'=p.at':=by rw[(zb3 c).1]
   rw[e]at r
   exact r
  rw[euP]
  refine⟨fun p hp=>?_,fun p hp=>?_⟩
  ·show wfN (if(zau L p).1=true then _ else _:Nod × PS).1/\nsz (if(zau L p).1=true then _ else _:Nod × PS).1+3*p.at'<=3*(if(zau L p).1=true then _ else _:Nod × PS).2.at'+1
   by_cases c:(zau L p).1=true
   ·rw[if_pos c]
    exact up _ (zwh hL hk tm.1 ih.1 (zwi hL hk tm.2 ih.2)) p hp c
   ·rw[if_neg c];exact dn p hp c
  ·show wfN (if(zau L p).1=true then _ else _:Nod × PS).1/\nsz (if(zau L p).1=true then _ else _:Nod × PS).1+3*p.at'<=3*(if(zau L p).1=true then _ else _:Nod × PS).2.at'+1
   by_cases c:(zau L p).1=true
   ·rw[if_pos c]
    exact up _ (zuv hL hl hk tm.1 ih.1 ih.2) p hp c
   ·rw[if_neg c];exact dn p hp c
structure DecG (d:Dec):Prop where
 types:d.types.length=2
 vars:d.vars.length<=10001
 body:wfN d.body
 size:nsz d.body<=30001
theorem zo2:∀(n:Nat) (l:List (ByteArray × Typ)) (p:PS),(zeF L n l p).1.length<=l.length+n
 |0,l,p=>by rw[zeF];exact Nat.le_refl _
 | n+1,l,p=>by
  rw[zeF]
  split<;>split<;>first
   |(refine Nat.le_trans (zo2 n _ _) ?_;simp only[List.length_append,List.length_cons,List.length_nil];omega)
   |(simp only[List.length_append,List.length_cons,List.length_nil];omega)
theorem zyd(hl:L.length<=10000)(p:PS):(zeG L p).1.length<=10001:=by
 unfold zeG
 split
 ·have:=zo2 (L:=L) (L.length+1) [] (zad L (bs [91]) p).2
  simp only[List.length_nil]at this
  omega
 ·simp
theorem zye(hL:OkL L)(hl:L.length<=10000)(p:PS)(hp:p.at'<L.length):DecG (decP L p).1:=by
 have h1:=zag hL hp (s:=zdF)
 have h2:=h1.trans (zal hL h1.lt (s:=wFn))
 have h3:=h2.trans (zaI hL h2.lt)
 have h4:=h3.trans (zki hL _ h3.lt)
 have h5:=h4.trans (zeh hL (zcB hL) _ h4.lt)
 have h6:=h5.trans (zal hL h5.lt (s:=bs [61]))
 have n7:=(zzo hL hl (zcB hL) 102).1 _ h6.lt
 have h7:=zkh hL _ h6.lt
 have hh:=zrl (L:=L) (ki:=kiP L) (zeG L (zav L (zay L wFn (zad L zdF p).2)).2).2
 unfold decP
 refine⟨?_,zyd hl _,n7.1,?_⟩
 ·simp only
  split
  ·simp only[List.length_append,List.length_cons,List.length_nil];omega
  ·omega
 ·have:=n7.2
  have:=h7.lt
  simp only[exP]at*
  omega
theorem zo3(hL:OkL L)(hl:L.length<=10000):∀(n:Nat) (l:List Dec) (p:PS),p.at'<L.length->(∀d,d∈l->DecG d)->∀d,d∈(zbO L n l p).1->DecG d
 |0,l,p,hp,h,d,hd=>by rw[zbO]at hd;exact h d hd
 | n+1,l,p,hp,h,d,hd=>by
  rw[zbO]at hd
  split at hd
  ·refine zo3 hL hl n _ _ (zpT hL p hp).lt (fun x hx=>?_) d hd
   rcases List.mem_append.1 hx with hx|hx
   ·exact h x hx
   ·simp only[List.mem_singleton]at hx;subst hx;exact zye hL hl p hp
  ·exact h d hd
end
theorem zuw(s:ByteArray):∀d,d∈(zba s).1.decs->DecG d:=fun d hd=>by
 unfold zba at hd
 simp only at hd
 by_cases q1:(lexP s).2.e=0
 ·obtain⟨hL,hl⟩:=zkm q1
  rw[if_neg (fun z=>z q1)]at hd
  split at hd
  ·cases hd
  ·have h0:ps0.at'<(lexP s).1.length:=hL.pos
   exact zo3 hL hl _ _ _ (zhp hL _ _ _ h0).lt (fun x hx=>by cases hx) d hd
 ·rw[if_pos q1]at hd;cases hd
end Go.Gr
namespace Go.Gr
open Go.Abs Go.Proofs
theorem zh3(t:Typ):(zd1 t).size<=20000:=by
 unfold zd1
 split
 ·rename_i h
  have a:=zcg t false (zcY h)
  have b:=zie h
  omega
 ·simp
def TokN(l:List Tok):Prop:=∀t,t∈l->t.kind=1->t.text.size<=32
theorem zww(l:List UInt8)(h:(tokL l).e=0)(k:(tokL l).kind=1):(tokL l).text.length<=32:=by
 match l with
 |[]=>simp[tokL,badR]at h
 | c ::r=>
  rw[tokL]at h k⊢
  split at h
  ·rename_i c1
   rw[if_pos c1]at k⊢
   split at h
   ·simp[badR]at h
   ·rename_i c2
    rw[if_neg c2]
    simp only[List.length_take]
    omega
  ·rename_i c1
   rw[if_neg c1]at k
   split at k
   ·split at k
    ·simp at k
    ·simp[badR]at k
   split at k
   ·split at k
    ·simp[badR]at k
    ·split at k
     ·simp[badR]at k
     ·simp at k
   split at k
   ·simp[badR]at k
   ·simp at k
theorem zps:∀(n:Nat) (l:List UInt8) (a b:Int) (ts:List Tok),TokN ts->TokN (lexL n l a b ts).1
 |0,l,a,b,ts,h=>by rw[lexL];exact h
 | n+1,l,a,b,ts,h=>by
  rw[lexL]
  simp only
  split
  ·intro t ht k
   rcases List.mem_append.1 ht with ht|ht
   ·exact h t ht k
   ·simp only[List.mem_singleton]at ht;subst ht;simp at k
  generalize l.drop (blkL false l)=l' at*
  have go:(tokL l').e=0->TokN (lexL n (l'.drop (tokL l').len) (zbk (l.take (blkL false l)) a b).1 ((zbk (l.take (blkL false l)) a b).2+(tokL l').len) (ts++[⟨(tokL l').kind,bA (tokL l').text,(zbk (l.take (blkL false l)) a b).1,(zbk (l.take (blkL false l)) a b).2⟩])).1:=fun e0=>by
   refine zps n _ _ _ _ ?_
   intro t ht k
   rcases List.mem_append.1 ht with ht|ht
   ·exact h t ht k
   ·simp only[List.mem_singleton]at ht
    subst ht
    simp only at k⊢
    have:=zww l' e0 k
    show(bA (tokL l').text).size<=32
    rw[zsf];exact this
  have nil:∀d:Dia,TokN (([]:List Tok),d).1:=fun d t ht=>by cases ht
  by_cases q:(tokL l').e=0/\ts.length=8192
  ·rw[if_pos q,if_pos (by decide)]
   exact nil _
  ·rw[if_neg q]
   by_cases e0:(tokL l').e=0
   ·rw[if_neg (fun z=>z e0)]
    exact go e0
   ·rw[if_pos e0]
    exact nil _
theorem zwx(s:ByteArray):TokN (lexP s).1:=by
 unfold lexP
 split
 ·intro t ht;cases ht
 ·exact zps _ _ _ _ _ (fun t ht=>by cases ht)
theorem zwy{L:List Tok}(h:TokN L)(p:PS):(zav L p).1.size<=32:=by
 unfold zav
 split
 ·rename_i c
  have:curT L p∈L:=by
   unfold curT at c⊢
   rw[List.getD_eq_getElem?_getD]at c⊢
   cases q:L[p.at']? with
   |none=>rw[q]at c;simp[zdZ]at c
   |some t=>exact List.mem_of_getElem? q
  exact h _ this c.2
 ·simp
theorem znX{L:List Tok}(h:TokN L):∀(n:Nat) (l:List Dec) (p:PS),(∀d,d∈l->d.name.size<=32)->∀d,d∈(zbO L n l p).1->d.name.size<=32
 |0,l,p,hl,d,hd=>by rw[zbO]at hd;exact hl d hd
 | n+1,l,p,hl,d,hd=>by
  rw[zbO]at hd
  split at hd
  ·refine znX h n _ _ (fun x hx=>?_) d hd
   rcases List.mem_append.1 hx with hx|hx
   ·exact hl x hx
   ·simp only[List.mem_singleton]at hx;subst hx;unfold decP;exact zwy h _
  ·exact hl d hd
theorem zs6(s:ByteArray):∀d,d∈(zba s).1.decs->d.name.size<=32:=fun d hd=>by
 unfold zba at hd
 simp only at hd
 split at hd
 ·cases hd
 split at hd
 ·cases hd
 ·exact znX (zwx s) _ _ _ (fun x hx=>by cases hx) d hd
theorem zkM:∀(l:List (ByteArray × ByteArray)) (i:Nat) (ns:List ByteArray) (ms:List Mdl) (bad:List Dia),(∀m,m∈ms->∀d,d∈m.decs->DecG d/\d.name.size<=32)->
  (∀m,m∈(zbj l i ns ms bad).1.2->∀d,d∈m.decs->DecG d/\d.name.size<=32)
 |[],i,ns,ms,bad,h=>by rw[zbj];exact h
 | s::l,i,ns,ms,bad,h=>by
  rw[zbj]
  refine zkM l _ _ _ _ fun m hm=>?_
  rcases List.mem_append.1 hm with hm|hm
  ·exact h m hm
  ·simp only[List.mem_singleton]at hm
   subst hm
   exact fun d hd=>⟨zuw s.2 d hd,zs6 s.2 d hd⟩
theorem zlZ:∀(l:List (ByteArray × ByteArray)) (i:Nat) (ns:List ByteArray) (ms:List Mdl) (bad:List Dia),bad.length<=(zbj l i ns ms bad).2.length/\((zbj l i ns ms bad).2.length=0->(∀n,n∈ns->n.size<=32)->∀n,n∈(zbj l i ns ms bad).1.1->n.size<=32)
 |[],i,ns,ms,bad=>by rw[zbj];exact⟨Nat.le_refl _,fun _ h=>h⟩
 | s::l,i,ns,ms,bad=>by
  rw[zbj]
  have r:=zlZ l (i+1) (ns++[s.1]) (ms++[(zba s.2).1]) (if za1 s.1=false then bad++[⟨i,1,1,10⟩]else if 0<=modZ ns s.1 then bad++[⟨i,1,1,8⟩]else if(zba s.2).2.e≠0 then bad++[⟨i,(zba s.2).2.line,(zba s.2).2.col,(zba s.2).2.e⟩]else bad)
  by_cases c:za1 s.1=false
  ·rw[if_pos c]at r⊢
   have:=r.1
   rw[List.length_append]at this
   simp only[List.length_cons,List.length_nil]at this
   exact⟨by omega,fun q=>by omega⟩
  ·refine⟨Nat.le_trans ?_ r.1,fun q h=>r.2 q fun n hn=>?_⟩
   ·rw[if_neg c]
    split
    ·simp
    split
    ·simp
    ·exact Nat.le_refl _
   ·rcases List.mem_append.1 hn with hn|hn
    ·exact h n hn
    ·simp only[List.mem_singleton]at hn;subst hn;exact zjo (by simpa using c)
def EntM(ms:List Mdl)(e:Ent):Prop:=0<=e.module/\e.module<ms.length/\0<=e.decl/\e.decl<(ms.getD e.module.toNat noM).decs.length
theorem zkd{α:Type}(q:α->Bool)(l:List α):fi q 0 l= -1\/(0<=fi q 0 l/\fi q 0 l<l.length):=by
 have:=zm5 q 0 l
 omega
theorem zke(ms:List Mdl)(m i:Int)(h0:0<=m)(h1:m<ms.length)(x:Imp):∀(l:List ByteArray) (sc:List Ent) (bad:List Dia),(∀e,e∈sc->EntM ms e)->∀e,e∈(impN (ms.getD m.toNat noM) m i x l sc bad).1->EntM ms e
 |[],sc,bad,h=>by rw[impN];exact h
 | s::l,sc,bad,h=>by
  rw[impN]
  split
  ·exact zke ms m i h0 h1 x l _ _ h
  rename_i c
  split
  ·exact zke ms m i h0 h1 x l _ _ h
  refine zke ms m i h0 h1 x l _ _ fun e he=>?_
  rcases List.mem_append.1 he with he|he
  ·exact h e he
  ·simp only[List.mem_singleton]at he
   subst he
   have a:=zkd (fun d:Dec=>decide (d.name=s)) (ms.getD m.toNat noM).decs
   have b:¬zcb (ms.getD m.toNat noM) s<0:=fun z=>c (.inl z)
   unfold zcb at b
   unfold EntM zcb
   simp only
   omega
theorem zpt(ns:List ByteArray)(ms:List Mdl)(hn:ns.length=ms.length)(i:Int):∀(l:List Imp) (sc:List Ent) (bad:List Dia),(∀e,e∈sc->EntM ms e)->∀e,e∈(ze6 ns ms i l sc bad).1->EntM ms e
 |[],sc,bad,h=>by rw[ze6];exact h
 | x::l,sc,bad,h=>by
  rw[ze6]
  refine zpt ns ms hn i l _ _ ?_
  unfold zbB
  split
  ·exact h
  ·rename_i c
   have a:=zkd (fun n=>decide (n=x.from_)) ns
   unfold modZ at c⊢
   exact zke ms _ i (by omega) (by omega) x _ _ _ h
theorem zlj(ms:List Mdl)(i:Nat)(hi:i<ms.length):∀(l:List Dec) (k:Nat) (sc:List Ent) (bad:List Dia),k+l.length<=(ms.getD i noM).decs.length->(∀e,e∈sc->EntM ms e)->∀e,e∈(zeA i l k sc bad).1->EntM ms e
 |[],k,sc,bad,hk,h=>by rw[zeA];exact h
 | d::l,k,sc,bad,hk,h=>by
  rw[zeA]
  simp only[List.length_cons]at hk
  split
  ·exact zlj ms i hi l (k+1) _ _ (by omega) h
  refine zlj ms i hi l (k+1) _ _ (by omega) fun e he=>?_
  rcases List.mem_append.1 he with he|he
  ·exact h e he
  ·simp only[List.mem_singleton]at he
   subst he
   unfold EntM
   simp only[Int.toNat_natCast]
   omega
theorem zl0(ns:List ByteArray)(ms:List Mdl)(hn:ns.length=ms.length):∀(l:List Mdl) (i:Nat) (all:List (List Ent)) (bad:List Dia),l=ms.drop i->all.length=i->i<=ms.length->(∀sc,sc∈all->∀e,e∈sc->EntM ms e)->
  (zbA ns ms l i all bad).1.length=ms.length/\∀sc,sc∈(zbA ns ms l i all bad).1->∀e,e∈sc->EntM ms e
 |[],i,all,bad,hl,ha,hi,h=>by
  rw[zbA]
  have:(ms.drop i).length=0:=by rw[<-hl];try rfl
  rw[List.length_drop]at this
  exact⟨by simp only;omega,h⟩
 | m::l,i,all,bad,hl,ha,hi,h=>by
  have hlt:i<ms.length:=by
   by_cases q:i<ms.length
   ·exact q
   ·rw[List.drop_eq_nil_of_le (by omega)]at hl;cases hl
  rw[List.drop_eq_getElem_cons hlt]at hl
  have h1:=(List.cons.inj hl).1
  have h2:=(List.cons.inj hl).2
  have hm:ms.getD i noM=m:=by rw[List.getD_eq_getElem?_getD,List.getElem?_eq_getElem hlt,h1];try rfl
  rw[zbA]
  refine zl0 ns ms hn l (i+1) _ _ h2 (by simp;omega) (by omega) fun sc hsc=>?_
  rcases List.mem_append.1 hsc with hsc|hsc
  ·exact h sc hsc
  ·simp only[List.mem_singleton]at hsc
   subst hsc
   exact zlj ms i hlt m.decs 0 _ _ (by rw[hm];omega) (zpt ns ms hn i m.imps [] bad fun e he=>by cases he)
structure LinkG (L:Lnk):Prop where
 good:GoodL L
 decs:∀m,m∈L.mods->∀d,d∈m.decs->DecG d
 decNames:∀m,m∈L.mods->∀d,d∈m.decs->d.name.size<=32
 modNames:∀n,n∈L.names->n.size<=32
 small:∀m,m∈L.mods->SmallM m
 main:EntOk L ⟨bs [],L.main.module,L.main.decl⟩
theorem zjb(l:List (ByteArray × ByteArray))(h:(zeB l).2.length=0):LinkG (zeB l).1:=by
 have hs:=zkN l []
 have hg:∀m,m∈(zbQ l).1.2->∀d,d∈m.decs->DecG d/\d.name.size<=32:=by
  unfold zbQ
  split
  ·intro m hm;cases hm
  ·exact zkM l 0 [] [] [] fun m hm=>by cases hm
 have hb:(zbQ l).2.length=0->∀n,n∈(zbQ l).1.1->n.size<=32:=by
  unfold zbQ
  split
  ·intro q;simp at q
  ·exact fun q=>(zlZ l 0 [] [] []).2 q fun n hn=>by cases hn
 unfold zeB at h⊢
 simp only at h⊢
 generalize zbQ l=f at*
 have hn:f.1.1.length=f.1.2.length:=hs.2.1
 have s1:=zl0 f.1.1 f.1.2 hn f.1.2 0 [] [] (by simp) rfl (by omega) (fun sc hsc=>by cases hsc)
 generalize zbA f.1.1 f.1.2 f.1.2 0 [] []=s at*
 generalize zdW f.1.1 f.1.2 f.1.2 0 []=t at*
 by_cases c1:0<f.2.length
 ·rw[if_pos c1]at h;simp only at h;omega
 rw[if_neg c1]at h⊢
 by_cases c2:0<s.2.length
 ·rw[if_pos c2]at h;simp only at h;omega
 rw[if_neg c2]at h⊢
 by_cases c3:0<t.length
 ·rw[if_pos c3]at h;simp only at h;omega
 rw[if_neg c3]at h⊢
 by_cases c4:modZ f.1.1 zcR<0
 ·rw[if_pos c4]at h;simp at h
 rw[if_neg c4]at h⊢
 by_cases c5:zcb (f.1.2.getD (modZ f.1.1 zcR).toNat noM) zcR<0
 ·rw[if_pos c5]at h;simp at h
 rw[if_neg c5]at h⊢
 split
 ·rename_i c6;rw[if_pos c6]at h;simp at h
 have a:=zkd (fun n=>decide (n=zcR)) f.1.1
 have b:=zkd (fun d:Dec=>decide (d.name=zcR)) (f.1.2.getD (modZ f.1.1 zcR).toNat noM).decs
 refine⟨⟨hs.1,hn,s1.1,fun m hm d hd=>⟨(hg m hm d hd).1.types,by have:=(hg m hm d hd).1.vars;omega⟩,fun sc hsc e he=>?_⟩,fun m hm d hd=>(hg m hm d hd).1,fun m hm d hd=>(hg m hm d hd).2,hb (by omega),hs.2.2,?_⟩
 ·have:=s1.2 sc hsc e he
  exact⟨this.1,this.2.1,this.2.2.1,this.2.2.2⟩
 ·unfold modZ at c4 c5 b⊢
  unfold zcb at c5⊢
  refine⟨?_,?_,?_,?_⟩<;>simp only<;>omega
end Go.Gr
namespace Go.Gr
open Go.Abs Go.Proofs
set_option maxRecDepth 20000 in
theorem zzB(l:List (ByteArray × ByteArray)):PCall Pg 15 [.one (.sl false 2 (l.map srcE))] (.one (.bool (decide (l.length<=20)&&fewL l 0))):=by
 refine zv8 (by simp) fun o c hN hp=>?_
 obtain⟨R,hR⟩:∃R,(decide (l.length<=20)&&fewL l 0)=R:=⟨_,rfl⟩
 rw[hR]
 unfold zm4
 simp
 refine gd.mk (fun h=>?_) (fun h=>?_)
 ·have h:¬l.length<=20:=by simp at h;omega
  simp[h]at hR
  simp[hR]
 have h:l.length<=20:=by simp at h;omega
 simp[h]at hR
 refine W.loop zab hp (fun Y:Nat × Nat=>Y.1<=l.length/\Y.2<=70000/\fewL (l.drop Y.1) Y.2=R) (fun Y=>[(4,.c (.d (.int .i64 Y.1))),(3,.c (.d (.int .i64 Y.2))),(0,.c (.d (.sl false 2 (l.map srcE))))]) (fun _=>[]) (fun Y=>l.length-Y.1) (0,0) [] ⟨by simp,by simp,by simpa using hR⟩ (by simp) fun⟨j,n⟩ ⟨i1,i2,i3⟩=>?_
 unfold lp_w07_Few_0
 simp only at i1 i2 i3
 simp
 refine gd.mk (fun h=>?_) (fun h=>?_)
 ·have hj:j<l.length:=by simpa using h
  obtain⟨s,hs⟩:∃s,l[j]=s:=⟨_,rfl⟩
  rw[List.drop_eq_getElem_cons hj,hs,fewL]at i3
  have hw:=wrap_i64 (n:=(j:Int)+1) (by omega) (by omega)
  have hw2:=wrap_i64 (n:=(70000:Int)-n) (by omega) (by omega)
  by_cases c1:(70000:Int)-n<s.2.size
  ·rw[if_pos (.inl c1)]at i3
   simp[hj,hs,hw2,c1,<-i3]
  by_cases c2:(1000:Int)<s.1.size
  ·rw[if_pos (.inr (by omega))]at i3
   simp[hj,hs,hw2,c1,c2,<-i3]
  rw[if_neg (fun z=>z.elim c1 (fun z=>c2 (by omega)))]at i3
  have hw3:=wrap_i64 (n:=(n:Int)+s.2.size) (by omega) (by omega)
  simp[hj,hs,hw2,c1,c2]
  refine Abs.Next.mk (j+1,n+s.2.size) [] ⟨by simp only;omega,by simp only;omega,by simpa using i3⟩ (by simp only;omega) ?_
  simp[hw,hw3]
 ·have hj:j=l.length:=by simp at h;omega
  subst hj
  rw[List.drop_length,fewL]at i3
  simp[<-i3]
end Go.Gr
namespace Go.Gr
open Go.Abs Go.Proofs
def fb(s:CS):List Fun × List Dia:=(s.funs,s.bad)
@[simp] theorem znI(a b e:Int)(s:CS):fb (zaL a b e s)=fb s:=by unfold zaL;split<;>rfl
@[simp] theorem zdu(t:Typ)(a b:Int)(s:CS):fb (zas t a b s).2=fb s:=by unfold zas;simp only;split<;>simp
@[simp] theorem zkA(t:Typ)(a b:Int)(s:CS):fb (zbf t a b s).2=fb s:=by unfold zbf;simp only;split<;>simp
@[simp] theorem zBV(x:Cor)(t u:Typ)(a b:Int)(s:CS):fb (zaT x t u a b s).2=fb s:=by unfold zaT;split<;>rfl
@[simp] theorem zjR(x:Cor)(t u:Typ)(a b:Int)(s:CS):fb (zaA x t u a b s).2=fb s:=by
 unfold zaA
 split
 ·rfl
 split
 ·rfl
 split<;>simp
@[simp] theorem zCa(u:Typ)(a b:Int)(x:(Cor × Typ) × CS):fb (anyC u a b x).2=fb x.2:=by unfold anyC;split<;>simp
@[simp] theorem zzf(a b:Int):∀(ts l:List Typ) (s:CS),fb (zbX a b ts l s).2=fb s
 |[],l,s=>by rw[zbX]
 |t::ts,l,s=>by
  rw[zbX]
  split
  ·rfl
  ·rw[zzf a b ts];simp
@[simp] theorem zCb(s:CS)(t:List Ist):fb {s with tab:=t}=fb s:=rfl
section
variable (L:Lnk)
@[simp] theorem zAU(a b:Int)(e:Ent)(l:List Typ)(s:CS):fb (zbg L a b e l s).2=fb s:=by
 unfold zbg
 split
 ·simp
 ·simp only
  split<;>simp
def KInf(i:Inf):Prop:=∀env s,fb (i env s).2=fb s
theorem zq2(n:Nod){i:Inf}(h:KInf i)(t:Typ)(env:Env)(s:CS):fb (zaZ n i t env s).2=fb s:=by unfold zaZ;simp[h env s]
theorem zzg(n:Nod):KInf (zcG L n):=fun env s=>by
 unfold zcG
 simp only
 repeat' split
 all_goals simp
theorem zAI(n a:Nod){ia ib:Inf}(ha:KInf ia)(hb:KInf ib):KInf (letC n a ia ib):=fun env s=>by
 unfold letC
 simp only
 split<;>simp[ha _ _,hb _ _]
theorem k_fn(n a:Nod){ia:Inf}(ha:KInf ia):KInf (fnC n a ia):=fun env s=>by
 unfold fnC
 simp only
 repeat' split
 all_goals simp[ha _ _]
theorem zz3(n b:Nod){ia ib:Inf}(ha:KInf ia)(hb:KInf ib):KInf (zdv n b ia ib):=fun env s=>by
 unfold zdv
 simp only
 repeat' split
 all_goals simp[ha _ _,hb _ _]
theorem zAJ(n:Nod){ia:Inf}(ha:KInf ia):KInf (selC n ia):=fun env s=>by
 unfold selC
 simp only
 repeat' split
 all_goals simp[ha _ _]
theorem zz4(n:Nod){ia ib:Inf}(ha:KInf ia)(hb:KInf ib):KInf (zdw n ia ib):=fun env s=>by
 unfold zdw
 simp only
 repeat' split
 all_goals simp[ha _ _,hb _ _]
theorem k_if(q a b:Nod){iq ia ib:Inf}(hq:KInf iq)(ha:KInf ia)(hb:KInf ib):KInf (ifC q a b iq ia ib):=fun env s=>by
 unfold ifC
 simp[hq _ _,ha _ _,hb _ _]
theorem k_as(n:Nod){ia:Inf}(ha:KInf ia):KInf (asC n ia):=fun env s=>by
 unfold asC
 simp only
 repeat' split
 all_goals simp[ha _ _]
theorem k_op(n a b:Nod){ia ib:Inf}(ha:KInf ia)(hb:KInf ib):KInf (opC n a b ia ib):=fun env s=>by
 unfold opC
 simp only
 repeat' split
 all_goals simp[zq2 _ ha,zq2 _ hb,ha _ _,hb _ _]
theorem zAK(n a:Nod){ia:Inf}(ha:KInf ia):KInf (oneC n a ia):=fun env s=>by
 unfold oneC
 repeat' split
 all_goals simp[zq2 _ ha,ha _ _]
theorem zq3:∀(l:List Nod),(∀x,x∈l->KInf (zao L x))->∀env s,fb (zaN L l env s).2=fb s
 |[],_,env,s=>by rw[zaN]
 |n::l,h,env,s=>by
  rw[zaN]
  simp only
  rw[zq3 l (fun x hx=>h x (by simp[hx])),h n (by simp) env s]
theorem zAL(n:Nod)(h:∀x,x∈n.kids->KInf (zao L x)):KInf (recC n (zaN L n.kids)):=fun env s=>by
 unfold recC
 simp only
 rw[zkA,zq3 L n.kids h]
 split<;>simp
theorem zmW{j:Inf}(h:KInf j):KInf (stopC j):=fun env s=>by
 unfold stopC
 split
 ·rfl
 ·exact h env s
theorem zmX(n:Nod){rest:Inf}(hr:KInf rest)(h:∀x,x∈n.kids->KInf (zao L x)):KInf (headC L n rest):=fun env s=>by
 unfold headC
 split
 ·rfl
 split
 ·rfl
 split
 ·rfl
 split
 ·rfl
 split
 ·rfl
 split
 ·exact zzg L n env s
 split
 ·exact zAL L n h env s
 ·exact hr env s
theorem zxV(n:Nod)(h:∀x,x∈n.kids->KInf (zao L x)):KInf (zao L n):=by
 obtain⟨k,tx,nn,ln,cl,ts,ns,ks⟩:=n
 match ks,h with
 |[],h=>rw[eq0];exact zmW (zmX L _ (fun env s=>rfl) h)
 |[a],h=>
  have ha:=h a (by simp[Nod.kids])
  rw[eq1]
  refine zmW (zmX L _ (fun env s=>?_) h)
  unfold zgC
  split
  ·exact k_fn _ _ ha env s
  split
  ·exact zAJ _ ha env s
  split
  ·exact k_as _ ha env s
  ·exact zAK _ _ ha env s
 |[a,b],h=>
  have ha:=h a (by simp[Nod.kids])
  have hb:=h b (by simp[Nod.kids])
  rw[eq2]
  refine zmW (zmX L _ (fun env s=>?_) h)
  unfold zgD
  split
  ·exact zAI _ _ ha hb env s
  split
  ·exact zz3 _ _ ha hb env s
  split
  ·exact zz4 _ ha hb env s
  ·exact k_op _ _ _ ha hb env s
 |a::b::c::l,h=>
  rw[eq3]
  exact zmW (zmX L _ (k_if a b c (h a (by simp[Nod.kids])) (h b (by simp[Nod.kids])) (h c (by simp[Nod.kids]))) h)
mutual
theorem zkB:∀n:Nod,KInf (zao L n)
 |.mk k tx nn ln cl ts ns ks=>zxV L _ (zq4 ks)
theorem zq4:∀l:List Nod,∀x,x∈l->KInf (zao L x)
 |[],x,hx=>by cases hx
 |n::l,x,hx=>by
  rcases List.mem_cons.1 hx with e|hx
  ·rw[e];exact zkB n
  ·exact zq4 l x hx
end
end
end Go.Gr
namespace Go.Gr
open Go.Abs Go.Proofs
theorem zex{L:Lnk}(hG:LinkG L){m k:Int}(h:EntOk L ⟨bs [],m,k⟩):DecG (decAt L m k)/\(decAt L m k).name.size<=32:=by
 obtain⟨mn,kn,M,e1,e2,g1,g2,_⟩:=zfm hG.good h
 exact⟨hG.decs M (List.mem_of_getElem? g1) _ (List.mem_of_getElem? g2),hG.decNames M (List.mem_of_getElem? g1) _ (List.mem_of_getElem? g2)⟩
structure TOk (L:Lnk) (s:CS) (i:Nat):Prop where
 tab:s.tab.length<=256
 ist:∀x,x∈s.tab->EntOk L ⟨bs [],x.module,x.decl⟩/\x.types.length<=1000000
 sites:s.sites.length+(257-i)*240009<=1000000000
 funs:s.funs.length<=i
 bad:s.bad.length<=i
def startC(L:Lnk)(x:Ist)(s0:CS):CS:={s0 with module:=x.module,vars:=(decAt L x.module x.decl).vars.map (·.1),wth:=x.types,e:=0}
theorem start_ok{L:Lnk}{x:Ist}(hx:EntOk L ⟨bs [],x.module,x.decl⟩)(hxt:x.types.length<=1000000){s:CS}{i:Nat}(hi:i<257)(h:TOk L s i):SOk L (startC L x s) (8*30001+1+(257-(i+1))*240009):=by
 have a:=h.sites
 have b:=h.funs
 have c:=h.bad
 refine⟨hxt,?_,h.tab,hx.m0,hx.m1,⟨?_,?_⟩,h.ist⟩
 ·have e:(startC L x s).sites=s.sites:=rfl
  have q:s.sites.length+(8*30001+1+(257-(i+1))*240009)<=1000000000:=by
   obtain⟨k,hk⟩:∃k,257-i=k+1:=⟨256-i,by omega⟩
   have hk2:257-(i+1)=k:=by omega
   rw[hk]at a
   rw[hk2,show 8*30001+1=240009 from rfl]
   clear h hx hxt
   generalize s.sites.length=n at*
   omega
  simp only[e]
  exact q
 ·have e:(startC L x s).funs=s.funs:=rfl
  simp only[e]
  omega
 ·have e:(startC L x s).bad=s.bad:=rfl
  simp only[e]
  omega
theorem fun_keep{L:Lnk}(hG:LinkG L){x:Ist}(hx:EntOk L ⟨bs [],x.module,x.decl⟩)(hxt:x.types.length<=1000000){s:CS}{i:Nat}(hi:i<257)(h:TOk L s i):TOk L (funC L x s) (i+1):=by
 have hd:=(zex hG hx).1
 have p0:=start_ok hx hxt hi h
 have f0:fb (startC L x s)=fb s:=rfl
 have hf:=h.funs
 have hb:=h.bad
 unfold funC
 unfold startC at p0 f0
 simp only
 generalize decAt L x.module x.decl=d at*
 generalize ({s with module:=x.module,vars:=d.vars.map (·.1),wth:=x.types,e:=0}:CS)=s0 at*
 have p1:=za2 p0 (d.types.getD 0 noT) d.line d.col
 have f1:=zdu (d.types.getD 0 noT) d.line d.col s0
 generalize zas (d.types.getD 0 noT) d.line d.col s0=r1 at*
 have p2:=za2 p1.1 (d.types.getD 1 noT) d.line d.col
 have f2:=zdu (d.types.getD 1 noT) d.line d.col r1.2
 generalize zas (d.types.getD 1 noT) d.line d.col r1.2=r2 at*
 obtain⟨T,hT⟩:∃T,(if r2.2.e=0 then zbf (fnT r1.1 r2.1) d.line d.col r2.2 else(fnT r1.1 r2.1,r2.2))=T:=⟨_,rfl⟩
 have p3:SOk L T.2 (8*30001+1+(257-(i+1))*240009)/\fb T.2=fb r2.2:=by
  rw[<-hT]
  split
  ·exact⟨(zgh p2.1 _ _ _).1,zkA _ _ _ _⟩
  ·exact⟨p2.1,rfl⟩
 rw[hT]
 clear hT
 obtain⟨S,hS⟩:∃S,(if x.module=L.main.module/\x.decl=L.main.decl/\zfQ (bT 1) r1.1=false then zaL d.line d.col 14 T.2 else T.2)=S:=⟨_,rfl⟩
 have p4:SOk L S (8*30001+1+(257-(i+1))*240009)/\fb S=fb T.2:=by
  rw[<-hS]
  split
  ·exact⟨zbo p3.1 _ _ _,znI _ _ _ _⟩
  ·exact⟨p3.1,rfl⟩
 rw[hS]
 clear hS
 have hne:EOk [(d.param,r1.1)] (nsz d.body):=⟨by have:=hd.size;simp only[List.length_cons,List.length_nil];omega,fun v hv=>by simp only[List.mem_singleton]at hv;subst hv;exact p1.2⟩
 have p5:=(zli L hG.good d.body hd.body).2 [(d.param,r1.1)] S (1+(257-(i+1))*240009) hne (p4.1.less (by have:=hd.size;omega))
 have f5:=zkB L d.body [(d.param,r1.1)] S
 generalize zao L d.body [(d.param,r1.1)] S=y at*
 have p6:=coerceC_ok (b:=(257-(i+1))*240009) (p5.1.less (by omega)) y.1.1 y.1.2 r2.1 d.body.line d.body.col
 have f6:=zjR y.1.1 y.1.2 r2.1 d.body.line d.body.col y.2
 generalize zaA y.1.1 y.1.2 r2.1 d.body.line d.body.col y.2=z at*
 have f:fb z.2=fb s:=by rw[f6,f5,p4.2,p3.2,f2,f1,f0]
 have g1:z.2.funs=s.funs:=congrArg (·.1) f
 have g2:z.2.bad=s.bad:=congrArg (·.2) f
 split
 ·exact⟨p6.tab,p6.ist,p6.sites,by simp[g1];omega,by simp[g2];omega⟩
 ·exact⟨p6.tab,p6.ist,p6.sites,by simp[g1];omega,by show z.2.bad.length<=_;rw[g2];omega⟩
theorem zlO{L:Lnk}(i:Nat)(hi:i<L.mods.length):∀(l:List Dec) (k:Nat) (s:CS),k+l.length<=(L.mods.getD i noM).decs.length->TOk L s 0->TOk L (zcz L i l k s).1 0
 |[],k,s,hk,h=>by rw[zcz];exact h
 | d::l,k,s,hk,h=>by
  simp only[List.length_cons]at hk
  rw[zcz]
  split
  ·exact zlO i hi l (k+1) s (by omega) h
  have hx:∀x,x∈(addR 256 s.tab ⟨i,k,[]⟩).2->EntOk L ⟨bs [],x.module,x.decl⟩/\x.types.length<=1000000:=fun x hx=>by
   rcases zlw hx with hx|hx
   ·exact h.ist x hx
   ·subst hx
    exact⟨⟨by simp only;omega,by simp only;omega,by simp only;omega,by simp only[Int.toNat_natCast];omega⟩,by simp⟩
  simp only
  split
  ·exact⟨zij h.tab _,hx,h.sites,h.funs,h.bad⟩
  ·exact zlO i hi l (k+1) _ (by omega) ⟨zij h.tab _,hx,h.sites,h.funs,h.bad⟩
theorem zlP{L:Lnk}:∀(l:List Mdl) (i:Nat) (s:CS),l=L.mods.drop i->TOk L s 0->TOk L (seedM L l i s).1 0
 |[],i,s,hl,h=>by rw[seedM];exact h
 | m::l,i,s,hl,h=>by
  have hlt:i<L.mods.length:=by
   by_cases q:i<L.mods.length
   ·exact q
   ·rw[List.drop_eq_nil_of_le (by omega)]at hl;cases hl
  rw[List.drop_eq_getElem_cons hlt]at hl
  have h1:=(List.cons.inj hl).1
  have hm:L.mods.getD i noM=m:=by rw[List.getD_eq_getElem?_getD,List.getElem?_eq_getElem hlt,h1];try rfl
  have r:=zlO i hlt m.decs 0 s (by rw[hm];omega) h
  rw[seedM]
  split
  ·exact r
  ·exact zlP l (i+1) _ (List.cons.inj hl).2 r
end Go.Gr
namespace Go.Gr
open Go.Abs Go.Proofs
section
variable (L:Lnk)
abbrev ck9(s:CS):List Blk:=[ckBx L s 6 7 8,tbB 256 s.tab.length 9,.dead,.dead,.dead,.dead,funA s.funs,sitA s.sites,diaA s.bad,tabA s.tab]
theorem zmM(l:List Typ)(i:Nat)(s:ByteArray)(h:i<l.length):zcl (l.drop i) i s=zcl (l.drop (i+1)) (i+1) (s++(if i=0 then bs [91]else bs [44,32])++zd1 l[i]):=by
 rw[List.drop_eq_getElem_cons h,zcl]
abbrev ckB(L:Lnk)(s:CS)(vD wD:D)(tb a b d:Nat):Blk:=.box [.d (.sl false 1 (encS L.names)),.d (.sl false 2 (L.mods.map Mdl.enc)),.d (.sl false 1 (L.scopes.map scpE)),.d (.str L.main.name),.d (.int .i64 L.main.module),.d (.int .i64 L.main.decl),.ptr tb 0,.msl 13 a 0 s.funs.length,.d (.int .i64 s.main),.msl 3 b 0 s.sites.length,.msl 4 d 0 s.bad.length,.d (.int .i64 s.module),.d vD,.d wD,.d (.int .i64 s.e),.d (.int .i64 s.line),.d (.int .i64 s.col)]
abbrev ck5(L:Lnk)(s:CS)(vD wD:D):List Blk:=[ckB L s vD wD 1 2 3 4,tbB 256 s.tab.length 5,funA s.funs,sitA s.sites,diaA s.bad,tabA s.tab]
theorem zqE(a b:Int):(Nod.mk 0 (bs []) 0 a b [] [] []).enc=[.int .i64 0,.str (bs []),.int .i64 0,.int .i64 a,.int .i64 b,.sl false 4 [],.sl false 1 [],.sl false 8 []]:=rfl
@[simp] theorem cut_body(d:Dec):cut (d.enc.map AC.d) 5 8=d.body.enc.map AC.d:=by
 obtain⟨a,b,c,e,f,g,h,i⟩:=d
 cases g;rfl
abbrev row13(z:ByteArray):List AC:=[.d (.str z),.d (.int .i64 0),.d (.str (bs [])),.d (.sl true 1 []),.d (.sl true 4 []),.d (.int .i64 0),.d (.int .i64 0),.d (.str (bs [])),.d (.sl true 1 []),.d (.sl true 1 []),.d (.sl true 4 []),.d (.sl true 5 []),.d (.sl true 8 [])]
theorem zks(z:ByteArray)(T:Typ):13<=(splice (row13 z) 1 (T.enc.map AC.d)).length:=by
 rw[zbn];exact Nat.le_refl _
theorem zkt(z:ByteArray)(T:Typ)(b:Cor):put (splice (row13 z) 1 (T.enc.map AC.d)) 5 (b.enc.map AC.d)=(Fun.enc ⟨z,T,b⟩).map AC.d:=by
 unfold Fun.enc;rw[T.enc_eq,b.enc_eq];try rfl
abbrev fnB0(L:Lnk)(s:CS)(P:List Blk)(d:Dec)(a b T:Typ)(E:List Blk):List Blk:=ck6 L s++(P++[.box (d.enc.map .d),.box [.d (.int .i64 0),.d (.str (bs [])),.d (.int .i64 0),.d (.int .i64 d.line),.d (.int .i64 d.col),.d (.sl true 4 []),.d (.sl true 1 []),.d (.sl true 8 [])],.box (a.enc.map .d),.box (b.enc.map .d),.dead,.box (T.enc.map .d)]++E)
theorem St.cut{F:St->Prop}{t:List (Nat × AV)}{m:Hp}{n:Nat}(ts:List (Nat × AV))(bs:List Blk)(ht:∀p,p∈ts->Abs.look t p.1=p.2)(hm:∀i,m i=hpOf bs i)(h:∀T,(∀p,p∈ts->Abs.look T p.1=p.2)->F ⟨T,hpOf bs,n⟩):F ⟨t,m,n⟩:=by
 have e:m=hpOf bs:=funext hm
 subst e
 exact h t ht
abbrev fnTs(X:Ist)(j:Nat)(z:ByteArray):List (Nat × AV):=[(13,.c (.d (.int .i64 j))),(12,.c (.d (.str z))),(10,.c (.ptr 7 0)),(8,.c (.ptr 6 0)),(3,.c (.d (.rp X.enc 0))),(0,.c (.ptr 0 0))]
abbrev fnBs(L:Lnk)(s:CS)(P:List Blk)(T:Typ)(z:Cor):List Blk:=[ckBx L s 2 8 3,tbB 256 s.tab.length 9,funA s.funs,diaA s.bad]++(P++[.box (T.enc.map .d),.box (z.enc.map .d),sitA s.sites,tabA s.tab])
set_option maxRecDepth 20000 in
set_option maxHeartbeats 4000000 in
theorem zqF(hF:LinkG L)(X:Ist)(hX:EntOk L ⟨bs [],X.module,X.decl⟩)(hXt:X.types.length<=1000000)(s0:CS)(vD wD:D)(k:Nat)(hs:SOk L (startC L X s0) (8*30001+1+k)):
  MCall Pg 29 [.c (.ptr 0 0),.ag (X.enc.map .d)] (ck5 L s0 vD wD) (.tup []) (ck9 L (funC L X s0)):=by
 refine znK ⟨by simp,by simp,by simp,by simp,by simp,by simp,by simp[live]⟩ fun ts hts ok hbk c hN hp=>?_
 obtain⟨t,u,v,w,x,y,rfl⟩:=zaV hts
 have hdG:=(zex hF hX).1
 have hdn:=(zex hF hX).2
 obtain⟨mn,kn,M,e1,e2,g1,g2,hd⟩:=zfm hF.good hX
 have hb1:=zaB 1
 unfold funC
 unfold startC at hs
 simp only
 generalize hdd:decAt L X.module X.decl=d at*
 have hv:=zs1 d hd.vars
 obtain⟨ta,tb,hty⟩:=zlR hd.types
 have e3:d.types.getD 0 noT=ta:=by rw[hty];try rfl
 have e4:d.types.getD 1 noT=tb:=by rw[hty];try rfl
 rw[e3,e4]
 obtain⟨s,hss⟩:∃s:CS,{s0 with module:=X.module,vars:=d.vars.map (·.1),wth:=X.types,e:=0}=s:=⟨_,rfl⟩
 have m1:=zct L ta d.line d.col s (by rw[<-hss]at*;exact hs.wth)
 rw[hss]at hs⊢
 have p1:=za2 hs ta d.line d.col
 generalize zas ta d.line d.col s=r1 at*
 have m2:=zct L tb d.line d.col r1.2 p1.1.wth
 have p2:=za2 p1.1 tb d.line d.col
 generalize zas tb d.line d.col r1.2=r2 at*
 unfold mc_gc_function
 have b0:ck6 L s=ck6 L {s0 with module:=X.module,vars:=d.vars.map (·.1),wth:=X.types,e:=0}:=by rw[hss]
 rw[b0]at m1
 simp[e1,e2,g1,g2]
 refine⟨by decide,?_⟩
 refine zac.mk hv ?_
 simp[hty]
 refine zaa.mk [0,1,2,3,4,5] m1 (by simp[e1]) ?_
 simp[hty]
 refine⟨by decide,?_⟩
 refine zaa.mk [0,1,2,3,4,5] m2 (by simp) ?_
 simp
 refine⟨by decide,?_⟩
 have hfits:=zsu (bT 1) r1.1
 generalize zfQ (bT 1) r1.1=ft at*
 have mm:=MCall.erd (args:=[.c (.ptr 0 0),.ag [.d (.int .i64 6),.d (.str (bs [])),.d (.sl true 1 []),.d (.sl false 4 [r1.1.enc,r2.1.enc])],.ag [.d (.int .i64 0),.d (.str (bs [])),.d (.int .i64 0),.d (.int .i64 d.line),.d (.int .i64 d.col),.d (.sl true 4 []),.d (.sl true 1 []),.d (.sl true 8 [])]]) (zd5 L (fnT r1.1 r2.1) (.mk 0 (bs []) 0 d.line d.col [] [] []) r2.2) (by simp[AV.erds,AV.erd,AC.erd,D.erd,D.erdL,D.erdE,fnT,zan,zaf,zap,encS,Nod.enc,Nod.encs,zqE])
 simp only[Nod.line,Nod.col]at mm
 have pm:=zgh p2.1 (fnT r1.1 r2.1) d.line d.col
 have fin:∀q:CS,SOk L q (8*30001+1+k)->MCall Pg 55 [.c (.ptr 0 0),.ag [.d (.int .i64 0),.d (.str (bs [])),.d (.int .i64 0),.d (.int .i64 d.line),.d (.int .i64 d.col),.d (.sl true 4 []),.d (.sl true 1 []),.d (.sl true 8 [])],.c (.d (.int .i64 14))] (ck6 L q) (.tup []) (ck6 L (zaL d.line d.col 14 q))/\SOk L (zaL d.line d.col 14 q) (8*30001+1+k):=fun q hq=>⟨MCall.erd (zb5 L (.mk 0 (bs []) 0 d.line d.col [] [] []) 14 q) (by simp[AV.erds,AV.erd,AC.erd,D.erd,D.erdL,D.erdE,encS,zqE]),zbo hq _ _ _⟩
 have hne:EOk [(d.param,r1.1)] (nsz d.body):=⟨by have:=hdG.size;simp;omega,fun v hv=>by simp at hv;subst hv;exact p1.2⟩
 have hi:=zli L hF.good d.body hdG.body
 have minf:∀q:CS,SOk L q (8*30001+1+k)->MCall Pg 56 [.c (.ptr 0 0),.ag (d.body.enc.map .d),.c (.d (.sl true 5 [.str d.param::r1.1.enc]))] (ck6 L q) (infA (zao L d.body [(d.param,r1.1)] q).1.1 (zao L d.body [(d.param,r1.1)] q).1.2) (ck8 L (zao L d.body [(d.param,r1.1)] q).2)/\SOk L (zao L d.body [(d.param,r1.1)] q).2 (1+k):=fun q hq=>⟨MCall.erd (hi.1 [(d.param,r1.1)] q (1+k) hne (hq.less (by have:=hdG.size;omega))) (by simp[AV.erds,AV.erd,AC.erd,D.erd,D.erdL,D.erdE,encV]),(hi.2 [(d.param,r1.1)] q (1+k) hne (hq.less (by have:=hdG.size;omega))).1⟩
 have hnm:∃nm,L.names.getD X.module.toNat (bs [])=nm/\L.names[mn]?=some nm:=by
  rw[e1]
  simp only[Int.toNat_natCast]
  have:mn<L.names.length:=by have:=hF.good.names;have:=hX.m1;simp only at this;omega
  exact⟨L.names[mn],by rw[List.getD_eq_getElem?_getD,List.getElem?_eq_getElem this];rfl,List.getElem?_eq_getElem this⟩
 obtain⟨nm,hnm1,hnm2⟩:=hnm
 have hnz:=hF.modNames nm (List.mem_of_getElem? hnm2)
 rw[hnm1]
 obtain⟨R,hR⟩:∃R,zcl X.types 0 (nm++bs [46]++d.name)=R:=⟨_,rfl⟩
 rw[hR]
 by_cases q0:r2.2.e=0
 ·rw [if_pos q0]
  generalize zbf (fnT r1.1 r2.1) d.line d.col r2.2=T at*
  simp[q0]
  refine fzK.mk [16] ?_
  simp[zak]
  refine zaa.mk [0,1,2,3,4,5] mm (by simp[q0]) ?_
  simp
  refine owK.mk [] ?_
  simp
  refine zac.mk hb1 ?_
  simp
  refine zac.mk hfits ?_
  simp
  refine⟨by decide,?_⟩
  refine fzK.mk [] ?_
  simp only[zd8,zfa,if_pos,if_neg,reduceIte,Nat.reduceEqDiff,zcJ,zb8,Blk.fz_arr,zcP,zeS]
  refine St.cut (F:=w_ Pg c _ _ _) [(0,.c (.ptr 0 0)),(3,.c (.d (.rp X.enc 0))),(4,.c (.ptr 12 0)),(5,.c (.ptr 13 0)),(6,.c (.ptr 14 0)),(7,.c (.ptr 15 0)),(8,.c (.ptr 17 0)),(9,.c (.d (.bool ft)))] (fnB0 L T.2 [.pin t 0,.pin u 1,.pin v 2,.pin w 3,.pin x 4,.pin y 5] d r1.1 r2.1 (T.1) []) ?_ ?_ fun T' hT=>?_
  ·simp[zak]
  ·intro i
   by_cases q:i<18
   ·rcases(show i=0\/i=1\/i=2\/i=3\/i=4\/i=5\/i=6\/i=7\/i=8\/i=9\/i=10\/i=11\/i=12\/i=13\/i=14\/i=15\/i=16\/i=17 from by omega)with rfl|rfl|rfl|rfl|rfl|rfl|rfl|rfl|rfl|rfl|rfl|rfl|rfl|rfl|rfl|rfl|rfl|rfl<;>simp[zak]
   ·refine Eq.trans (b:=Blk.non) ?_ (zbe (by simp;omega)).symm
    try simp[show i≠0 from by omega,show i≠1 from by omega,show i≠2 from by omega,show i≠3 from by omega,show i≠4 from by omega,show i≠5 from by omega,show i≠6 from by omega,show i≠7 from by omega,show i≠8 from by omega,show i≠9 from by omega,show i≠10 from by omega,show i≠11 from by omega,show i≠12 from by omega,show i≠13 from by omega,show i≠14 from by omega,show i≠15 from by omega,show i≠16 from by omega,show i≠17 from by omega]
    rw[zbe (show 12<=i from by omega)]
    try rfl
  simp only[List.forall_mem_cons,List.not_mem_nil,false_implies,implies_true,and_true]at hT
  obtain⟨l0,l3,l4,l5,l6,l7,l8,l9⟩:=hT
  simp[l0,l3,l4,l5,l6,l7,l8,l9]
  have P5:=pm.1
  generalize T.1=Ty at*
  generalize T.2=S2 at*
  obtain⟨S5,pa,hS5⟩:∃S5,SOk L S5 (8*30001+1+k)/\(if X.module=L.main.module/\X.decl=L.main.decl/\ft=false then zaL d.line d.col 14 S2 else S2)=S5:=by
   split
   ·exact⟨_,(fin S2 P5).2,rfl⟩
   ·exact⟨_,P5,rfl⟩
  rw[hS5]
  by_cases cm:X.module=L.main.module
  rotate_left
  rw[if_neg (fun z=>cm z.1)]at hS5
  subst hS5
  simp[cm,l0,l3,l4,l5,l6,l7,l8,l9]
  refine⟨by decide,?_⟩
  generalize S2=S5 at*
  rotate_left
  by_cases cd:X.decl=L.main.decl
  rotate_left
  rw[if_neg (fun z=>cd z.2.1)]at hS5
  subst hS5
  simp[cm,cd,l0,l3,l4,l5,l6,l7,l8,l9]
  refine⟨by decide,?_⟩
  generalize S2=S5 at*
  rotate_left
  rotate_left
  by_cases cf:ft=true
  rw[if_neg (fun z=>by rw[cf]at z;simp at z)]at hS5
  subst hS5
  simp[cm,cd,cf,l0,l3,l4,l5,l6,l7,l8,l9]
  refine⟨by decide,?_⟩
  generalize S2=S5 at*
  rotate_left
  rw[if_pos ⟨cm,cd,by simpa using cf⟩]at hS5
  have ma:=(fin S2 P5).1
  rw[hS5]at ma
  simp[cm,cd,cf,l0,l3,l4,l5,l6,l7,l8,l9]
  refine⟨by decide,?_⟩
  refine zaa.mk [0,1,2,3,4,5] ma (by simp[l0,l3,l4,l5,l6,l7,l8,l9]) ?_
  simp[l0,l3,l4,l5,l6,l7,l8,l9]
  all_goals
   have mi:=(minf S5 pa).1
   have pi:=(minf S5 pa).2
   generalize zao L d.body [(d.param,r1.1)] (S5)=r3 at*
   have mc:=zbu L r3.1.1 r3.1.2 r2.1 d.body r3.2 (by have:=pi.sites;omega)
   have pc:=coerceC_ok (b:=k) (pi.less (by omega)) r3.1.1 r3.1.2 r2.1 d.body.line d.body.col
   generalize zaA r3.1.1 r3.1.2 r2.1 d.body.line d.body.col r3.2=r4 at*
   refine zaa.mk [0,1,2,3,4,5] mi (by simp[l0,l3,l4,l5,l6,l7,l8,l9]) ?_
   simp[l0,l3,l4,l5,l6,l7,l8,l9]
   refine zaa.mk [0,1,2,18,4,19] mc (by simp[l0,l3,l4,l5,l6,l7,l8,l9]) ?_
   simp[e1,hnm2,l0,l3,l4,l5,l6,l7,l8,l9]
   refine⟨by unfold zah;omega,by unfold zah;omega,by decide,?_⟩
   refine W.loop zab hp (fun Y:Nat × ByteArray=>Y.1<=X.types.length/\Y.2.size<=100+Y.1*20010/\zcl (X.types.drop Y.1) Y.1 Y.2=R) (fun Y=>fnTs X Y.1 Y.2) (fun _=>fnBs L r4.2 [.pin t 0,.pin u 1] Ty r4.1) (fun Y=>X.types.length-Y.1) (0,nm++bs [46]++d.name) [0,1,2,4,6,7,17,20,22,19] ⟨by simp,by simp only[ByteArray.size_append,zdn,List.length_cons,List.length_nil];omega,by simpa using hR⟩ (by simp[l0,l3,l4,l5,l6,l7,l8,l9]) fun⟨j,z⟩ ⟨i1,i3,i2⟩=>?_
   unfold lp_gc_function_0
   simp only at i1 i3 i2
   simp
   refine gd.mk (fun h=>?_) (fun h=>?_)
   ·have hj:j<X.types.length:=by simpa using h
    rw[zmM _ _ _ hj]at i2
    obtain⟨q,hq⟩:∃q,X.types[j]=q:=⟨_,rfl⟩
    rw[hq]at i2
    have hw:=wrap_i64 (n:=(j:Int)+1) (by have:=hXt;omega) (by have:=hXt;omega)
    have hsq:=zh3 q
    by_cases j0:j=0
    ·subst j0
     simp[hj,hq]
     refine⟨by unfold zah;omega,?_⟩
     refine zac.mk (zkl q) ?_
     simp
     refine⟨by unfold zah;omega,?_⟩
     refine Abs.Next.mk (0+1,z++bs [91]++zd1 q) [0,1,2,3,4,5,6,7,8,9] ⟨by simp only;omega,by simp only[ByteArray.size_append,zdn,List.length_cons,List.length_nil];omega,by simpa using i2⟩ (by simp only;omega) ?_
     simp[show IntKind.i64.wrap 1=1 from by decide]
    ·rw[if_neg j0]at i2
     simp[hj,hq,j0]
     refine⟨by unfold zah;omega,?_⟩
     refine zac.mk (zkl q) ?_
     simp
     refine⟨by unfold zah;omega,?_⟩
     refine Abs.Next.mk (j+1,z++bs [44,32]++zd1 q) [0,1,2,3,4,5,6,7,8,9] ⟨by simp only;omega,by simp only[ByteArray.size_append,zdn,List.length_cons,List.length_nil];omega,i2⟩ (by simp only;omega) ?_
     simp[hw]
   have hj:j=X.types.length:=by simp at h;omega
   subst hj
   rw[List.drop_length,zcl]at i2
   subst i2
   have hfew:=pc.few
   have tf:(r4.2.funs.map ((fun x=>List.map AC.d x)∘Fun.enc)).take r4.2.funs.length=r4.2.funs.map ((fun x=>List.map AC.d x)∘Fun.enc):=List.take_of_length_le (by simp)
   have td:(r4.2.bad.map ((fun x=>List.map AC.d x)∘Dia.enc)).take r4.2.bad.length=r4.2.bad.map ((fun x=>List.map AC.d x)∘Dia.enc):=List.take_of_length_le (by simp)
   by_cases l0:0<X.types.length
   ·rw[if_pos l0]
    simp[l0,zks,zkt,Fun.enc_length]
    refine⟨by unfold zah;omega,by omega,by decide,?_⟩
    by_cases qe:r4.2.e=0
    ·simp[qe]
     exact EndM.mkE [0,1,4,5,6,7,10,8,3,9] [4,5,4,4,4,4] (by simp[AV.erds,AV.erd,Dia.enc,tf,td])
    ·simp[qe]
     refine⟨by omega,by decide,?_⟩
     exact EndM.mkE [0,1,4,5,6,7,10,8,11,9] [4,5,4,4,4,4] (by simp[AV.erds,AV.erd,Dia.enc,tf,td])
   ·rw[if_neg l0]
    simp[l0,zks,zkt,Fun.enc_length]
    refine⟨by omega,by decide,?_⟩
    by_cases qe:r4.2.e=0
    ·simp[qe]
     exact EndM.mkE [0,1,4,5,6,7,10,8,3,9] [4,5,4,4,4,4] (by simp[AV.erds,AV.erd,Dia.enc,tf,td])
    ·simp[qe]
     refine⟨by omega,by decide,?_⟩
     exact EndM.mkE [0,1,4,5,6,7,10,8,11,9] [4,5,4,4,4,4] (by simp[AV.erds,AV.erd,Dia.enc,tf,td])
 ·rw [if_neg q0]
  simp[q0]
  refine owK.mk [.c 17 2] ?_
  simp
  refine zac.mk hb1 ?_
  simp
  refine zac.mk hfits ?_
  simp
  refine⟨by decide,?_⟩
  refine fzK.mk [16,18] ?_
  simp only[zd8,zfa,if_pos,if_neg,reduceIte,Nat.reduceEqDiff,zcJ,zb8,Blk.fz_arr,zcP,zeS,zbb,zql]
  refine St.cut (F:=w_ Pg c _ _ _) [(0,.c (.ptr 0 0)),(3,.c (.d (.rp X.enc 0))),(4,.c (.ptr 12 0)),(5,.c (.ptr 13 0)),(6,.c (.ptr 14 0)),(7,.c (.ptr 15 0)),(8,.c (.ptr 17 0)),(9,.c (.d (.bool ft)))] (fnB0 L r2.2 [.pin t 0,.pin u 1,.pin v 2,.pin w 3,.pin x 4,.pin y 5] d r1.1 r2.1 (fnT r1.1 r2.1) [.dead]) ?_ ?_ fun T' hT=>?_
  ·simp[zak]
  ·intro i
   by_cases q:i<19
   ·rcases(show i=0\/i=1\/i=2\/i=3\/i=4\/i=5\/i=6\/i=7\/i=8\/i=9\/i=10\/i=11\/i=12\/i=13\/i=14\/i=15\/i=16\/i=17\/i=18 from by omega)with rfl|rfl|rfl|rfl|rfl|rfl|rfl|rfl|rfl|rfl|rfl|rfl|rfl|rfl|rfl|rfl|rfl|rfl|rfl<;>simp[zak,fnT,zan]
   ·refine Eq.trans (b:=Blk.non) ?_ (zbe (by simp;omega)).symm
    try simp[show i≠0 from by omega,show i≠1 from by omega,show i≠2 from by omega,show i≠3 from by omega,show i≠4 from by omega,show i≠5 from by omega,show i≠6 from by omega,show i≠7 from by omega,show i≠8 from by omega,show i≠9 from by omega,show i≠10 from by omega,show i≠11 from by omega,show i≠12 from by omega,show i≠13 from by omega,show i≠14 from by omega,show i≠15 from by omega,show i≠16 from by omega,show i≠17 from by omega,show i≠18 from by omega]
    rw[zbe (show 12<=i from by omega)]
    try rfl
  simp only[List.forall_mem_cons,List.not_mem_nil,false_implies,implies_true,and_true]at hT
  obtain⟨l0,l3,l4,l5,l6,l7,l8,l9⟩:=hT
  simp[l0,l3,l4,l5,l6,l7,l8,l9]
  have P5:=p2.1
  generalize fnT r1.1 r2.1=Ty at*
  generalize r2.2=S2 at*
  obtain⟨S5,pa,hS5⟩:∃S5,SOk L S5 (8*30001+1+k)/\(if X.module=L.main.module/\X.decl=L.main.decl/\ft=false then zaL d.line d.col 14 S2 else S2)=S5:=by
   split
   ·exact⟨_,(fin S2 P5).2,rfl⟩
   ·exact⟨_,P5,rfl⟩
  rw[hS5]
  by_cases cm:X.module=L.main.module
  rotate_left
  rw[if_neg (fun z=>cm z.1)]at hS5
  subst hS5
  simp[cm,l0,l3,l4,l5,l6,l7,l8,l9]
  refine⟨by decide,?_⟩
  generalize S2=S5 at*
  rotate_left
  by_cases cd:X.decl=L.main.decl
  rotate_left
  rw[if_neg (fun z=>cd z.2.1)]at hS5
  subst hS5
  simp[cm,cd,l0,l3,l4,l5,l6,l7,l8,l9]
  refine⟨by decide,?_⟩
  generalize S2=S5 at*
  rotate_left
  rotate_left
  by_cases cf:ft=true
  rw[if_neg (fun z=>by rw[cf]at z;simp at z)]at hS5
  subst hS5
  simp[cm,cd,cf,l0,l3,l4,l5,l6,l7,l8,l9]
  refine⟨by decide,?_⟩
  generalize S2=S5 at*
  rotate_left
  rw[if_pos ⟨cm,cd,by simpa using cf⟩]at hS5
  have ma:=(fin S2 P5).1
  rw[hS5]at ma
  simp[cm,cd,cf,l0,l3,l4,l5,l6,l7,l8,l9]
  refine⟨by decide,?_⟩
  refine zaa.mk [0,1,2,3,4,5] ma (by simp[l0,l3,l4,l5,l6,l7,l8,l9]) ?_
  simp[l0,l3,l4,l5,l6,l7,l8,l9]
  all_goals
   have mi:=(minf S5 pa).1
   have pi:=(minf S5 pa).2
   generalize zao L d.body [(d.param,r1.1)] (S5)=r3 at*
   have mc:=zbu L r3.1.1 r3.1.2 r2.1 d.body r3.2 (by have:=pi.sites;omega)
   have pc:=coerceC_ok (b:=k) (pi.less (by omega)) r3.1.1 r3.1.2 r2.1 d.body.line d.body.col
   generalize zaA r3.1.1 r3.1.2 r2.1 d.body.line d.body.col r3.2=r4 at*
   refine zaa.mk [0,1,2,3,4,5] mi (by simp[l0,l3,l4,l5,l6,l7,l8,l9]) ?_
   simp[l0,l3,l4,l5,l6,l7,l8,l9]
   refine zaa.mk [0,1,2,19,4,20] mc (by simp[l0,l3,l4,l5,l6,l7,l8,l9]) ?_
   simp[e1,hnm2,l0,l3,l4,l5,l6,l7,l8,l9]
   refine⟨by unfold zah;omega,by unfold zah;omega,by decide,?_⟩
   refine W.loop zab hp (fun Y:Nat × ByteArray=>Y.1<=X.types.length/\Y.2.size<=100+Y.1*20010/\zcl (X.types.drop Y.1) Y.1 Y.2=R) (fun Y=>fnTs X Y.1 Y.2) (fun _=>fnBs L r4.2 [.pin t 0,.pin u 1] Ty r4.1) (fun Y=>X.types.length-Y.1) (0,nm++bs [46]++d.name) [0,1,2,4,6,7,17,21,23,20] ⟨by simp,by simp only[ByteArray.size_append,zdn,List.length_cons,List.length_nil];omega,by simpa using hR⟩ (by simp[l0,l3,l4,l5,l6,l7,l8,l9]) fun⟨j,z⟩ ⟨i1,i3,i2⟩=>?_
   unfold lp_gc_function_0
   simp only at i1 i3 i2
   simp
   refine gd.mk (fun h=>?_) (fun h=>?_)
   ·have hj:j<X.types.length:=by simpa using h
    rw[zmM _ _ _ hj]at i2
    obtain⟨q,hq⟩:∃q,X.types[j]=q:=⟨_,rfl⟩
    rw[hq]at i2
    have hw:=wrap_i64 (n:=(j:Int)+1) (by have:=hXt;omega) (by have:=hXt;omega)
    have hsq:=zh3 q
    by_cases j0:j=0
    ·subst j0
     simp[hj,hq]
     refine⟨by unfold zah;omega,?_⟩
     refine zac.mk (zkl q) ?_
     simp
     refine⟨by unfold zah;omega,?_⟩
     refine Abs.Next.mk (0+1,z++bs [91]++zd1 q) [0,1,2,3,4,5,6,7,8,9] ⟨by simp only;omega,by simp only[ByteArray.size_append,zdn,List.length_cons,List.length_nil];omega,by simpa using i2⟩ (by simp only;omega) ?_
     simp[show IntKind.i64.wrap 1=1 from by decide]
    ·rw[if_neg j0]at i2
     simp[hj,hq,j0]
     refine⟨by unfold zah;omega,?_⟩
     refine zac.mk (zkl q) ?_
     simp
     refine⟨by unfold zah;omega,?_⟩
     refine Abs.Next.mk (j+1,z++bs [44,32]++zd1 q) [0,1,2,3,4,5,6,7,8,9] ⟨by simp only;omega,by simp only[ByteArray.size_append,zdn,List.length_cons,List.length_nil];omega,i2⟩ (by simp only;omega) ?_
     simp[hw]
   have hj:j=X.types.length:=by simp at h;omega
   subst hj
   rw[List.drop_length,zcl]at i2
   subst i2
   have hfew:=pc.few
   have tf:(r4.2.funs.map ((fun x=>List.map AC.d x)∘Fun.enc)).take r4.2.funs.length=r4.2.funs.map ((fun x=>List.map AC.d x)∘Fun.enc):=List.take_of_length_le (by simp)
   have td:(r4.2.bad.map ((fun x=>List.map AC.d x)∘Dia.enc)).take r4.2.bad.length=r4.2.bad.map ((fun x=>List.map AC.d x)∘Dia.enc):=List.take_of_length_le (by simp)
   by_cases l0:0<X.types.length
   ·rw[if_pos l0]
    simp[l0,zks,zkt,Fun.enc_length]
    refine⟨by unfold zah;omega,by omega,by decide,?_⟩
    by_cases qe:r4.2.e=0
    ·simp[qe]
     exact EndM.mkE [0,1,4,5,6,7,10,8,3,9] [4,5,4,4,4,4] (by simp[AV.erds,AV.erd,Dia.enc,tf,td])
    ·simp[qe]
     refine⟨by omega,by decide,?_⟩
     exact EndM.mkE [0,1,4,5,6,7,10,8,11,9] [4,5,4,4,4,4] (by simp[AV.erds,AV.erd,Dia.enc,tf,td])
   ·rw[if_neg l0]
    simp[l0,zks,zkt,Fun.enc_length]
    refine⟨by omega,by decide,?_⟩
    by_cases qe:r4.2.e=0
    ·simp[qe]
     exact EndM.mkE [0,1,4,5,6,7,10,8,3,9] [4,5,4,4,4,4] (by simp[AV.erds,AV.erd,Dia.enc,tf,td])
    ·simp[qe]
     refine⟨by omega,by decide,?_⟩
     exact EndM.mkE [0,1,4,5,6,7,10,8,11,9] [4,5,4,4,4,4] (by simp[AV.erds,AV.erd,Dia.enc,tf,td])
end
end Go.Gr
namespace Go.Gr
open Go.Abs Go.Proofs
abbrev chT(L:Lnk)(i:Nat):List (Nat × AV):=[(5,.c (.d (.int .i64 i))),(4,.c (.ptr 2 0)),(2,.c (.ptr 0 0)),(1,.c (.d (.rp L.enc 0)))]
abbrev chB(L:Lnk)(s:CS):List Blk:=[.box [.d (.sl true 13 []),.d (.int .i64 0),.d (.sl true 3 [])],.box [.d (.int .i64 256),.msl 3 6 0 s.tab.length],ckB L s (.sl true 1 []) (.sl true 4 []) 1 3 4 5,funA s.funs,sitA s.sites,diaA s.bad,tabA s.tab]
abbrev chT4(i:Nat):List (Nat × AV):=[(10,.c (.d (.int .i64 i))),(4,.c (.ptr 2 0)),(2,.c (.ptr 0 0))]
abbrev chB4(L:Lnk)(s:CS)(vD wD:D):List Blk:=[.box [.d (.sl true 13 []),.d (.int .i64 0),.d (.sl true 3 [])],.box [.d (.int .i64 256),.msl 3 6 0 s.tab.length],ckB L s vD wD 1 3 4 5,funA s.funs,sitA s.sites,diaA s.bad,tabA s.tab]
theorem zzK(a0 a1 a2 a3 a4 a5 a6 a7 a8 a9 a10 a11 a12 a13 a14 a15 a16:AC):cut [a0,a1,a2,a3,a4,a5,a6,a7,a8,a9,a10,a11,a12,a13,a14,a15,a16] 7 3=[a7,a8,a9]:=rfl
theorem zzL(L:Lnk):put (splice [.d (.sl true 1 []),.d (.sl true 2 []),.d (.sl true 1 []),.d (.str (bs [])),.d (.int .i64 0),.d (.int .i64 0),.d (.sc (.pointer none)),.d (.sl true 13 []),.d (.int .i64 0),.d (.sl true 3 []),.d (.sl true 4 []),.d (.int .i64 0),.d (.sl true 1 []),.d (.sl true 4 []),.d (.int .i64 0),.d (.int .i64 0),.d (.int .i64 0)] 0 (L.enc.map AC.d)) 6 [AC.ptr 1 0]=[.d (.sl false 1 (encS L.names)),.d (.sl false 2 (L.mods.map Mdl.enc)),.d (.sl false 1 (L.scopes.map scpE)),.d (.str L.main.name),.d (.int .i64 L.main.module),.d (.int .i64 L.main.decl),.ptr 1 0,.d (.sl true 13 []),.d (.int .i64 0),.d (.sl true 3 []),.d (.sl true 4 []),.d (.int .i64 0),.d (.sl true 1 []),.d (.sl true 4 []),.d (.int .i64 0),.d (.int .i64 0),.d (.int .i64 0)]:=rfl
set_option maxRecDepth 20000 in
set_option maxHeartbeats 4000000 in
theorem zw6(L:Lnk)(hG:LinkG L):PCall Pg 17 [.agg L.enc] (.tup [.agg (checkP L).1.enc,.one (.sl false 4 ((checkP L).2.map Dia.enc))]):=by
 refine zr7 (by simp) fun o c hN hp=>?_
 obtain⟨R,hR⟩:∃R,checkP L=R:=⟨_,rfl⟩
 rw[hR]
 unfold checkP at hR
 unfold zj4
 simp
 refine owK.mk [.c 2 7,.c 2 9,.c 2 10,.c 1 1] ?_
 simp[zzL]
 refine W.loop zab hp (fun Y:Nat × CS=>Y.1<=L.mods.length/\TOk L Y.2 0/\Y.2.funs=[]/\Y.2.sites=[]/\Y.2.bad=[]/\Y.2.module=0/\Y.2.e=0/\Y.2.line=0/\Y.2.col=0/\seedM L (L.mods.drop Y.1) Y.1 Y.2=seedM L L.mods 0 cs0) (fun Y=>chT L Y.1) (fun Y=>chB L Y.2) (fun Y=>L.mods.length-Y.1) (0,cs0) [0,1,2,3,4,5,6] ⟨by simp,⟨by simp[cs0],by simp[cs0],by simp[cs0],by simp[cs0],by simp[cs0]⟩,rfl,rfl,rfl,rfl,rfl,rfl,rfl,by simp⟩ (by simp[cs0]) fun⟨i,S⟩ ⟨i1,i2,i3,i4,i5,i6,i7,i8,i9,i10⟩=>?_
 unfold zhX
 simp only at i1 i2 i3 i4 i5 i6 i7 i8 i9 i10
 simp
 refine gd.mk (fun h=>?_) (fun h=>?_)
 ·have hi:i<L.mods.length:=by simpa using h
  obtain⟨m,hm⟩:∃m,L.mods[i]=m:=⟨_,rfl⟩
  rw[List.drop_eq_getElem_cons hi,hm,seedM]at i10
  simp[hi,hm]
  refine W.loop zab hp (fun Y:Nat × CS=>Y.1<=m.decs.length/\TOk L Y.2 0/\Y.2.funs=[]/\Y.2.sites=[]/\Y.2.bad=[]/\Y.2.module=0/\Y.2.e=0/\Y.2.line=0/\Y.2.col=0/\(if 0<(zcz L i (m.decs.drop Y.1) Y.1 Y.2).2.length then zcz L i (m.decs.drop Y.1) Y.1 Y.2 else seedM L (L.mods.drop (i+1)) (i+1) (zcz L i (m.decs.drop Y.1) Y.1 Y.2).1)=seedM L L.mods 0 cs0) (fun Y=>(6,.c (.d (.int .i64 Y.1)))::chT L i) (fun Y=>chB L Y.2) (fun Y=>m.decs.length-Y.1) (0,S) [0,1,2,3,4,5,6] ⟨by simp,i2,i3,i4,i5,i6,i7,i8,i9,by simpa using i10⟩ (by simp) fun⟨k,S2⟩ ⟨j1,j2,j3,j4,j5,j6,j7,j8,j9,j10⟩=>?_
  unfold lp_g09_Check_2
  simp only at j1 j2 j3 j4 j5 j6 j7 j8 j9 j10
  have hmi:L.mods[i]?=some m:=by rw[List.getElem?_eq_getElem hi,hm]
  simp[hi,hm]
  refine gd.mk (fun h=>?_) (fun h=>?_)
  ·have hk:k<m.decs.length:=by simpa using h
   obtain⟨d,hd⟩:∃d,m.decs[k]=d:=⟨_,rfl⟩
   rw[List.drop_eq_getElem_cons hk,hd,zcz]at j10
   have hdl:=(hG.small m (List.mem_of_getElem? hmi)).decs
   have hw:=wrap_i64 (n:=(k:Int)+1) (by omega) (by omega)
   by_cases c0:0<d.vars.length
   ·rw[if_pos c0]at j10
    simp[hi,hm,hk,hd,c0]
    refine Abs.Next.mk (k+1,S2) [0,1,2,3,4,5,6] ⟨by simp only;omega,j2,j3,j4,j5,j6,j7,j8,j9,j10⟩ (by simp only;omega) ?_
    simp[hw]
   rw[if_neg c0]at j10
   have hx:∀x,x∈(addR 256 S2.tab ⟨i,k,[]⟩).2->EntOk L ⟨bs [],x.module,x.decl⟩/\x.types.length<=1000000:=fun x hx=>by
    have hm2:L.mods.getD i noM=m:=by rw[List.getD_eq_getElem?_getD,hmi];try rfl
    rcases zlw hx with hx|hx
    ·exact j2.ist x hx
    ·subst hx
     exact⟨⟨by simp only;omega,by simp only;omega,by simp only;omega,by simp only[Int.toNat_natCast];rw[hm2];omega⟩,by simp⟩
   have hx2:=zij j2.tab ⟨i,k,[]⟩
   have le4:L.enc[4]?=some (D.int .i64 L.main.module):=rfl
   have le5:L.enc[5]?=some (D.int .i64 L.main.decl):=rfl
   have ma:=MCall.erd (args:=[.c (.ptr 0 0),.ag [.d (.int .i64 i),.d (.int .i64 k),.d (.sl true 4 [])]]) (zvx 256 S2.tab (by have:=j2.tab;omega) ⟨i,k,[]⟩ (by simp)) (by simp[AV.erds,AV.erd,AC.erd,D.erd,D.erdL,D.erdE,Ist.enc])
   generalize addR 256 S2.tab ⟨i,k,[]⟩=r at*
   simp only at j10
   by_cases r0:r.1.2=0
   rotate_left
   ·simp only[if_pos (show r.1.2≠0 from r0)]at j10
    simp at j10
    rw[<-j10]at hR
    simp at hR
    subst hR
    simp[hi,hm,hk,hd,c0]
    refine zaa.mk [1,6] ma (by simp[Ist.enc]) ?_
    simp[r0]
    refine⟨by decide,?_⟩
    refine fzK.mk [] ?_
    simp[noPrg,Prg.enc,Dia.enc]
    try decide
   ·simp only[if_neg (show¬r.1.2≠0 from fun z=>z r0)]at j10
    by_cases cm:(i:Int)=L.main.module
    ·by_cases cd:(k:Int)=L.main.decl
     ·simp only[if_pos (show(i:Int)=L.main.module/\(k:Int)=L.main.decl from⟨cm,cd⟩)]at j10
      simp[hi,hm,hk,hd,c0]
      refine zaa.mk [1,6] ma (by simp[Ist.enc]) ?_
      simp[r0,cm,cd,le4,le5]
      refine Abs.Next.mk (k+1,{S2 with tab:=r.2,main:=r.1.1}) [0,1,2,3,4,5,8] ⟨by simp only;omega,⟨hx2,hx,j2.sites,j2.funs,j2.bad⟩,j3,j4,j5,j6,j7,j8,j9,j10⟩ (by simp only;omega) ?_
      simp
      rw[<-cd];exact hw
     ·simp only[if_neg (show¬((i:Int)=L.main.module/\(k:Int)=L.main.decl)from fun z=>cd z.2)]at j10
      simp[hi,hm,hk,hd,c0]
      refine zaa.mk [1,6] ma (by simp[Ist.enc]) ?_
      simp[r0,cm,cd,le4,le5]
      refine Abs.Next.mk (k+1,{S2 with tab:=r.2}) [0,1,2,3,4,5,8] ⟨by simp only;omega,⟨hx2,hx,j2.sites,j2.funs,j2.bad⟩,j3,j4,j5,j6,j7,j8,j9,j10⟩ (by simp only;omega) ?_
      simp[hw]
    ·simp only[if_neg (show¬((i:Int)=L.main.module/\(k:Int)=L.main.decl)from fun z=>cm z.1)]at j10
     simp[hi,hm,hk,hd,c0]
     refine zaa.mk [1,6] ma (by simp[Ist.enc]) ?_
     simp[r0,cm,le4,le5]
     refine Abs.Next.mk (k+1,{S2 with tab:=r.2}) [0,1,2,3,4,5,8] ⟨by simp only;omega,⟨hx2,hx,j2.sites,j2.funs,j2.bad⟩,j3,j4,j5,j6,j7,j8,j9,j10⟩ (by simp only;omega) ?_
     simp[hw]
  ·have hk:k=m.decs.length:=by simp at h;omega
   subst hk
   rw[List.drop_length,zcz]at j10
   simp at j10
   have hw:=wrap_i64 (n:=(i:Int)+1) (by have:=hG.good.few;omega) (by have:=hG.good.few;omega)
   refine Abs.Next.mk (i+1,S2) [0,1,2,3,4,5,6] ⟨by simp only;omega,j2,j3,j4,j5,j6,j7,j8,j9,j10⟩ (by simp only;omega) ?_
   simp[hw]
 ·have hi:i=L.mods.length:=by simp at h;omega
  subst hi
  rw[List.drop_length,seedM]at i10
  rw[<-i10]at hR
  simp only[List.length_nil,Nat.lt_irrefl,if_false]at hR
  obtain⟨F,hF⟩:∃F,funsC L 257 0 S=F:=⟨_,rfl⟩
  rw[hF]at hR
  refine W.loop zab hp (fun Y:Nat × CS × D × D=>Y.1<=256/\TOk L Y.2.1 Y.1/\funsC L (257-Y.1) Y.1 Y.2.1=F) (fun Y=>chT4 Y.1) (fun Y=>chB4 L Y.2.1 Y.2.2.1 Y.2.2.2) (fun Y=>257-Y.1) (0,S,.sl true 1 [],.sl true 4 []) [0,1,2,3,4,5,6] ⟨by simp,i2,by simpa using hF⟩ (by simp) fun⟨j,S2,vD,wD⟩ ⟨j1,j2,j3⟩=>?_
  unfold zhY
  simp only at j1 j2 j3
  simp
  refine gd.mk (fun h=>?_) (fun h=>?_)
  ·have hj:j<S2.tab.length:=by simpa using h
   have hjt:=j2.tab
   obtain⟨X,hX⟩:∃X,S2.tab[j]=X:=⟨_,rfl⟩
   have hXm:X∈S2.tab:=hX▸List.getElem_mem hj
   have hXi:=j2.ist X hXm
   have hw:=wrap_i64 (n:=(j:Int)+1) (by omega) (by omega)
   have mf:=zqF L hG X hXi.1 hXi.2 S2 vD wD ((257-(j+1))*240009) (start_ok hXi.1 hXi.2 (by omega) j2)
   have mk:=fun_keep hG hXi.1 hXi.2 (by omega) j2
   have e3:funsC L (257-(j+1)) (j+1) (funC L X S2)=F:=by
    have e:257-j=(257-(j+1))+1:=by omega
    rw[e,funsC,if_pos hj]at j3
    rw[List.getD_eq_getElem?_getD,List.getElem?_eq_getElem hj,hX]at j3
    exact j3
   generalize funC L X S2=S3 at*
   simp[hj,hX]
   refine zaa.mk [2,1,3,4,5,6] mf (by simp) ?_
   simp
   refine Abs.Next.mk (j+1,S3,.sl false 1 (encS S3.vars),.sl false 4 (S3.wth.map Typ.enc)) [0,1,2,7,8,9,10] ⟨by simp only;omega,mk,e3⟩ (by simp only;omega) ?_
   simp[hw]
  ·have hj:¬j<S2.tab.length:=by simpa using h
   have e3:S2=F:=by
    have e:257-j=(257-(j+1))+1:=by omega
    rw[e,funsC,if_neg hj]at j3
    exact j3
   subst e3
   by_cases hb:0<S2.bad.length
   ·rw[if_pos hb]at hR
    subst hR
    simp[hb]
    refine⟨by decide,?_⟩
    refine fzK.mk [5] ?_
    simp[noPrg,Prg.enc]
    exact List.take_of_length_le (by simp)
   ·rw[if_neg hb]at hR
    subst hR
    simp[hb,zzK]
    refine fzK.mk [3,4] ?_
    simp[Prg.enc]
    exact⟨List.take_of_length_le (by simp),List.take_of_length_le (by simp)⟩
end Go.Gr
namespace Go.Gr
open Go.Abs Go.Proofs
@[simp] theorem Prg.enc_length(p:Prg):p.enc.length=3:=rfl
@[simp] theorem Prg.cut_map(p:Prg):cut (p.enc.map AC.d) 0 3=p.enc.map .d:=rfl
@[simp] theorem Prg.cut_enc(p:Prg):cut p.enc 0 3=p.enc:=rfl
@[simp] theorem Prg.er_map(p:Prg):p.enc.map D.er=p.enc:=rfl
abbrev prV(r:Prg × Bool):DV:=.tup [.agg r.1.enc,.one (.bool r.2)]
set_option maxRecDepth 20000 in
set_option maxHeartbeats 4000000 in
theorem zni(l:List (ByteArray × ByteArray)):PCall Pg 7 [.one (.sl false 2 (l.map srcE))] (prV (programP l)):=by
 refine zph (by simp) fun o c hN hp=>?_
 obtain⟨R,hR⟩:∃R,programP l=R:=⟨_,rfl⟩
 rw[hR]
 unfold programP at hR
 have hfew:=zzB l
 obtain⟨f,hf⟩:∃f,(decide (l.length<=20)&&fewL l 0)=f:=⟨_,rfl⟩
 rw[hf]at hfew
 unfold zhZ
 simp
 refine zac.mk hfew ?_
 simp
 cases f with
 | false=>
  have hc:20<l.length\/fewL l 0=false\/5000<sumL l:=by
   simp at hf
   by_cases q:l.length<=20
   ·exact .inr (.inl (hf q))
   ·exact .inl (by omega)
  rw[if_pos hc]at hR
  refine W.loop zab hp (fun _:Nat=>True) (fun _=>[(6,.c (.d (.int .i64 0))),(5,.c (.d (.int .i64 0))),(4,.c (.d (.bool false))),(2,.c (.ptr 0 0)),(0,.c (.d (.sl false 2 (l.map srcE))))]) (fun _=>[.box [.d (.sl true 13 []),.d (.int .i64 0),.d (.sl true 3 [])]]) (fun _=>0) 0 [0] (by simp) (by simp) fun j h1=>?_
  unfold lp_w11_Program_0
  simp
  refine gd.mk (fun h=>?_) (fun h=>?_)
  ·subst hR
   simp[noPrg,Prg.enc]
  ·subst hR
   simp[noPrg,Prg.enc]
 | true=>
  simp at hf
  have hl:=hf.1
  refine W.loop zab hp (fun Y:Nat × Nat=>Y.1<=l.length/\Y.2<=70000/\fewL (l.drop Y.1) Y.2=true/\(Y.2:Int)+sumL (l.drop Y.1)=sumL l) (fun Y=>[(6,.c (.d (.int .i64 Y.1))),(5,.c (.d (.int .i64 Y.2))),(4,.c (.d (.bool true))),(2,.c (.ptr 0 0)),(0,.c (.d (.sl false 2 (l.map srcE))))]) (fun _=>[.box [.d (.sl true 13 []),.d (.int .i64 0),.d (.sl true 3 [])]]) (fun Y=>l.length-Y.1) (0,0) [0] ⟨by simp,by simp,by simpa using hf.2,by simp⟩ (by simp) fun⟨j,n⟩ ⟨i1,i2,i3,i4⟩=>?_
  unfold lp_w11_Program_0
  simp only at i1 i2 i3 i4
  simp
  refine gd.mk (fun h=>?_) (fun h=>?_)
  ·have hj:j<l.length:=by simpa using h
   obtain⟨s,hs⟩:∃s,l[j]=s:=⟨_,rfl⟩
   rw[List.drop_eq_getElem_cons hj,hs,fewL]at i3
   rw[List.drop_eq_getElem_cons hj,hs,sumL]at i4
   have hw:=wrap_i64 (n:=(j:Int)+1) (by omega) (by omega)
   by_cases c1:(70000:Int)-n<s.2.size\/1000<s.1.size
   ·rw[if_pos c1]at i3;cases i3
   rw[if_neg c1]at i3
   have hw3:=wrap_i64 (n:=(n:Int)+s.2.size) (by omega) (by omega)
   simp[hj,hs]
   refine Abs.Next.mk (j+1,n+s.2.size) [0] ⟨by simp only;omega,by simp only;omega,by simpa using i3,by simp only;omega⟩ (by simp only;omega) ?_
   simp[hw,hw3]
  ·have hj:j=l.length:=by simp at h;omega
   subst hj
   rw[List.drop_length,sumL]at i4
   have i5:sumL l=n:=by omega
   by_cases c5:(5000:Int)<n
   ·rw[if_pos (.inr (.inr (by omega)))]at hR
    subst hR
    simp[c5,noPrg,Prg.enc]
   ·have hc:¬(20<l.length\/fewL l 0=false\/5000<sumL l):=by
     rw[hf.2]
     simp
     omega
    rw[if_neg hc]at hR
    have hlk:=zyG l
    have hlg:=zjb l
    generalize zeB l=x at*
    simp only at hR
    simp[c5]
    refine zac.mk hlk ?_
    simp
    by_cases c6:0<x.2.length
    ·rw[if_pos c6]at hR
     subst hR
     simp[c6,noPrg,Prg.enc]
    ·rw[if_neg c6]at hR
     have hck:=zw6 x.1 (hlg (by omega))
     generalize checkP x.1=y at*
     simp[c6]
     refine zac.mk hck ?_
     subst hR
     simp
end Go.Gr
namespace Go.Gr
open Go.Abs Go.Proofs
def insL(l:List Int)(x:Int):List Int:=if x∈l then l else l++[x]
def addL(l r:List Int):List Int:=r.foldl insL l
theorem zqR(l a b:List Int):addL l (a++b)=addL (addL l a) b:=by simp[addL]
@[simp] theorem zxJ(l:List Int):addL l []=l:=rfl
theorem zxK{l:List Int}{x y:Int}:y∈insL l x↔y∈l\/y=x:=by
 unfold insL
 split
 ·rename_i h
  exact⟨.inl,fun h'=>h'.elim id fun e=>e▸h⟩
 ·simp
theorem ztY{l:List Int}{x:Int}(h:l.Nodup):(insL l x).Nodup:=by
 unfold insL
 split
 ·exact h
 ·rename_i q
  refine List.nodup_append.2 ⟨h,by simp,fun a ha b hb e=>?_⟩
  rw[List.mem_singleton]at hb
  exact q (hb▸e▸ha)
theorem zxL(l:List Int)(x:Int):(insL l x).length<=l.length+1:=by
 unfold insL;split<;>simp
theorem zqS:∀{r l:List Int} {y:Int},y∈addL l r↔y∈l\/y∈r
 |[],l,y=>by simp[addL]
 |x::r,l,y=>by
  have:addL l (x::r)=addL (insL l x) r:=rfl
  rw[this,zqS,zxK,List.mem_cons,or_assoc]
theorem ziw:∀{r l:List Int},l.Nodup->(addL l r).Nodup
 |[],l,h=>h
 |x::r,l,h=>ziw (r:=r) (ztY h)
theorem zlL:∀(r l:List Int),(addL l r).length<=l.length+r.length
 |[],l=>Nat.le_refl _
 |x::r,l=>by
  have h1:=zlL r (insL l x)
  have h2:=zxL l x
  have:addL l (x::r)=addL (insL l x) r:=rfl
  rw[this,List.length_cons];omega
def putI(x:Int):List Int->List Int
 |[]=>[x]
 |y::l=>if x<=y then x::y::l else y::putI x l
def srtI:List Int->List Int
 |[]=>[]
 |x::l=>putI x (srtI l)
theorem zff(x:Int):∀l:List Int,(putI x l).Perm (x::l)
 |[]=>.refl _
 |y::l=>by
  rw[putI]
  split
  ·exact .refl _
  ·exact((zff x l).cons y).trans (.swap x y l)
theorem zfg:∀l:List Int,(srtI l).Perm l
 |[]=>.refl _
 |x::l=>(zff x _).trans ((zfg l).cons x)
theorem zix(x:Int):∀l:List Int,l.Pairwise (· < ·)->x∉l->(putI x l).Pairwise (· < ·)
 |[],_,_=>by simp[putI]
 | y::l,h,hx=>by
  rw[List.pairwise_cons]at h
  simp only[List.mem_cons,not_or]at hx
  rw[putI]
  split
  ·rename_i q
   refine List.pairwise_cons.2 ⟨fun z hz=>?_,List.pairwise_cons.2 h⟩
   rcases List.mem_cons.1 hz with e|e
   ·subst e;omega
   ·have:=h.1 z e;omega
  ·refine List.pairwise_cons.2 ⟨fun z hz=>?_,zix x l h.2 hx.2⟩
   rcases List.mem_cons.1 ((zff x l).mem_iff.1 hz)with e|e
   ·subst e;omega
   ·exact h.1 z e
theorem ziy:∀l:List Int,l.Nodup->(srtI l).Pairwise (· < ·)
 |[],_=>by simp[srtI]
 |x::l,h=>by
  rw[List.nodup_cons]at h
  exact zix x _ (ziy l h.2) fun hx=>h.1 ((zfg l).mem_iff.1 hx)
structure Todo where
 name:ByteArray
 body:Cor
 caps:List Int
 deep:Int
 none:Bool
def Todo.enc(t:Todo):List D:=.str t.name::(t.body.enc++[.sl t.none 1 (encI t.caps),.int .i64 t.deep])
structure Flt where
 name:ByteArray
 caps:Int
 body:Cor
def Flt.enc(t:Flt):List D:=.str t.name::.int .i64 t.caps::t.body.enc
def idxI(x:Int):List Int->Nat->Int
 |[],_=> -1
 |y::l,i=>if x=y then i else idxI x l (i+1)
def numT(t:Todo)(n:Int):Int:=if t.deep<=n then n-t.deep+t.caps.length else idxI n t.caps 0
mutual
def rawV:Cor->Int->List Int
 |.mk k n _ _ _ _ _ ks,b=>(if k=4/\n<b then [n]else [])++za3 ks b
def za3:List Cor->Int->List Int
 |[],_=>[]
 |c::l,b=>rawV c b++za3 l b
end
def zcj(c:Cor)(b:Int):List Int:=srtI (addL [] (rawV c b))
mutual
def convC(t:Todo):Cor->Int->List Todo->Cor × List Todo
 | .mk k n tx is ns ts cs ks=>fun deep l=>
  if k=4 then(.mk k (numT t n) tx is ns ts cs ks,l)
  else if k=5 then
   (.mk 23 l.length (bs []) ((zcj (ks.getD 0 noC) deep).map (numT t)) [] [] [] [],l++[⟨t.name++bs [39],ks.getD 0 noC,zcj (ks.getD 0 noC) deep,deep,false⟩])
  else(.mk k n tx is ns ts cs (zbd t k ks 0 deep l).1,(zbd t k ks 0 deep l).2)
def zbd(t:Todo)(k:Int):List Cor->Nat->Int->List Todo->List Cor × List Todo
 |[]=>fun _ _ l=>([],l)
 |c::r=>fun i deep l=>
  let x:=convC t c (if k=18 then deep+i else deep) l
  let y:=zbd t k r (i+1) deep x.2
  (x.1::y.1,y.2)
end
mutual
def nfn:Cor->Nat
 |.mk k _ _ _ _ _ _ ks=>(if k=5 then 1 else 0)+nfns ks
def nfns:List Cor->Nat
 |[]=>0
 |c::l=>nfn c+nfns l
end
mutual
def csz:Cor->Nat
 |.mk _ _ _ _ _ _ _ ks=>1+cszs ks
def cszs:List Cor->Nat
 |[]=>0
 |c::l=>csz c+cszs l
end
def zgV:Nat->Nat->List Todo->List Flt->List Flt
 |0,_,_,o=>o
 | n+1,i,l,o=>match l[i]? with
  |none=>o
  |some t=>
   let r:=convC t t.body (t.deep+1) l
   zgV n (i+1) r.2 (o++[⟨t.name,t.caps.length,r.1⟩])
def todo0(f:Fun):Todo:=⟨f.name,f.body,[],0,true⟩
def nfnF(l:List Fun):Nat:=l.length+nfns (l.map (·.body))
def ze3(p:Prg):List Flt:=zgV (nfnF p.funs+1) 0 (p.funs.map todo0) []
mutual
def wfC:Nat->Cor->Prop
 |m,.mk k n _ _ _ ts _ ks=>k≠23/\(k=18->ks.length<=2)/\(k=21->ks.length=1/\ts.length=2)/\(k=4->0<=n/\n<m/\ks=[])/\(k=5->ks.length=1)/\wfCs m k ks 0
def wfCs:Nat->Int->List Cor->Nat->Prop
 |_,_,[],_=>True
 |m,k,c::l,i=>wfC (if k=5 then m+1 else if k=18 then m+i else m) c/\wfCs m k l (i+1)
end
def CW(m b:Nat)(c:Cor):Prop:=wfC m c/\csz c<=b
theorem CW.less{m b b':Nat}{c:Cor}(h:CW m b c)(hb:b<=b'):CW m b' c:=⟨h.1,Nat.le_trans h.2 hb⟩
theorem CW.n0(m:Nat)(k n:Int)(t:ByteArray)(h4:k≠4)(h5:k≠5)(h23:k≠23)(h21:k≠21):CW m 1 (.mk k n t [] [] [] [] []):=by
 simp[CW,wfC,wfCs,csz,cszs,h4,h5,h23,h21]
theorem CW.n1{m b:Nat}{k n:Int}{t:ByteArray}{ns:List ByteArray}{ts:List Typ}{c:Cor}(h:CW m b c)(h4:k≠4)(h5:k≠5)(h23:k≠23)(h21:k=21->ts.length=2):CW m (b+1) (.mk k n t [] ns ts [] [c]):=by
 have:=h.2
 refine⟨by simpa[wfC,wfCs,h4,h5,h23]using ⟨h21,h.1⟩,by simp only[csz,cszs];omega⟩
theorem CW.n2{m b b':Nat}{k n:Int}{t:ByteArray}{ns:List ByteArray}{ts:List Typ}{c d:Cor}(h:CW m b c)(h':CW m b' d)(h4:k≠4)(h5:k≠5)(h18:k≠18)(h23:k≠23)(h21:k≠21):CW m (b+b'+1) (.mk k n t [] ns ts [] [c,d]):=by
 have:=h.2
 have:=h'.2
 refine⟨by simpa[wfC,wfCs,h4,h5,h18,h23,h21]using ⟨h.1,h'.1⟩,by simp only[csz,cszs];omega⟩
theorem CW.n3{m b b' b'':Nat}{k n:Int}{t:ByteArray}{ns:List ByteArray}{ts:List Typ}{c d e:Cor}(h:CW m b c)(h':CW m b' d)(h'':CW m b'' e)(h4:k≠4)(h5:k≠5)(h18:k≠18)(h23:k≠23)(h21:k≠21):CW m (b+b'+b''+1) (.mk k n t [] ns ts [] [c,d,e]):=by
 have:=h.2
 have:=h'.2
 have:=h''.2
 refine⟨by simpa[wfC,wfCs,h4,h5,h18,h23,h21]using ⟨h.1,h'.1,h''.1⟩,by simp only[csz,cszs];omega⟩
theorem CW.noC(m:Nat):CW m 1 noC:=CW.n0 m 0 0 _ (by decide) (by decide) (by decide) (by decide)
theorem CW.cast{m b:Nat}{x:Cor}(h:CW m b x)(t u:Typ)(ln cl:Int)(s:CS):CW m (b+1) (zaT x t u ln cl s).1:=by
 unfold zaT
 split
 ·exact h.less (by omega)
 ·exact h.n1 (by decide) (by decide) (by decide) (fun _=>rfl)
theorem CW.coerce{m b:Nat}{x:Cor}(h:CW m b x)(t u:Typ)(ln cl:Int)(s:CS):CW m (b+1) (zaA x t u ln cl s).1:=by
 unfold zaA
 split
 ·exact h.less (by omega)
 split
 ·exact h.less (by omega)
 split
 ·exact h.cast _ _ _ _ _
 ·exact h.less (by omega)
theorem CW.any{m b:Nat}{x:(Cor × Typ) × CS}(h:CW m b x.1.1)(u:Typ)(ln cl:Int):CW m (b+1) (anyC u ln cl x).1.1:=by
 unfold anyC
 split
 ·exact h.cast _ _ _ _ _
 ·exact h.less (by omega)
theorem CW.global(L:Lnk)(m:Nat)(ln cl:Int)(e:Ent)(l:List Typ)(s:CS):CW m 1 (zbg L ln cl e l s).1.1:=by
 unfold zbg
 split
 ·exact CW.noC m
 ·exact CW.n0 m 6 _ _ (by decide) (by decide) (by decide) (by decide)
theorem zqT{m:Nat}{k:Int}(h5:k≠5)(h18:k≠18):∀{l:List Cor} {i:Nat},(∀c,c∈l->wfC m c)->wfCs m k l i
 |[],_,_=>by simp[wfCs]
 |c::l,i,h=>by
  rw[wfCs,if_neg h5,if_neg h18]
  exact⟨h c (by simp),zqT h5 h18 fun x hx=>h x (by simp[hx])⟩
end Go.Gr
