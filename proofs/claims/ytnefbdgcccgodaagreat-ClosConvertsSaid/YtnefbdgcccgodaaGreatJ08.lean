/- Texts of ours, joined and written short by a program of ours. -/
import Derived.Test.YtnefbdgcccgodaaGreatJ07
set_option linter.unusedVariables false
set_option linter.unusedSimpArgs false
namespace Go.Gr
open Go.Abs Go.Proofs
section
variable {L:List Tok}
set_option maxRecDepth 20000 in
set_option maxHeartbeats 2000000 in
theorem zvo(hL:OkL L)(hl:L.length<=10000){d:Nat}{ki:PS->Typ × PS}(hk:Tame L ki)(Hk:KiOk L d ki)(p:PS)(h:p.at'<L.length)(hd:p.deep=d):
  MCall Pg 168 [.c (.ptr 0 0)] [psB L p] (.c (.d (.sl false 4 ((zco L ki (L.length+1) [] p).1.map Typ.enc)))) [psB L (zco L ki (L.length+1) [] p).2]:=by
 refine zrL ⟨by simp,by simp,by simp,by simp,by simp,by simp,by simp⟩ fun ts hts ok hb c hN hp=>?_
 obtain⟨t,rfl⟩:=zaR hts
 obtain⟨F0,hF0⟩:∃F0,zco L ki (L.length+1) [] p=F0:=⟨_,rfl⟩
 rw[hF0]
 unfold zk4
 simp
 refine owK.mk [.t 3] ?_
 simp
 refine W.loop zab hp (fun x:Nat × List Typ × PS=>zco L ki x.1 x.2.1 x.2.2=F0/\Tm L p x.2.2/\L.length<x.1+x.2.2.at'/\x.2.1.length<=x.2.2.at')
  (fun x=>[(0,.c (.ptr 0 0)),(3,.c (.msl 4 2 0 x.2.1.length))])
  (fun x=>[psB L x.2.2,.pin t 0,.arr 4 ((x.2.1.map Typ.enc).map (·.map .d))])
  (fun x=>x.1) (L.length+1,[],p) [0,1,2] ⟨hF0,Tm.refl h,by simp only;omega,by simp⟩ (by simp) fun⟨n,l,q⟩ ⟨i1,i2,i3,i4⟩=>?_
 unfold lp_gp_types_0
 simp only at i1 i2 i4
 have i3:L.length<n+q.at':=i3
 have hlt:=i2.lt
 obtain⟨n,rfl⟩:∃m,n=m+1:=⟨n-1,by omega⟩
 rw[zco]at i1
 have e1:=hk q hlt
 have le1:=e1.le
 have a1:=Hk q hlt (by rw[i2.deep,hd])
 have a2:=zaE (bs [44]) _ e1.lt hl
 generalize (ki q).1=T at*
 generalize (ki q).2=q1 at*
 simp
 refine zaa.mk [0] a1 (by simp) ?_
 simp
 refine⟨by omega,?_⟩
 refine zaa.mk [0] a2 (by simp) ?_
 by_cases q2:(zad L (bs [44]) q1).1=true
 ·rw[if_pos q2]at i1
  have hat:=(take_at q2).1
  have e2:=e1.trans (zag hL e1.lt (s:=bs [44]))
  generalize (zad L (bs [44]) q1).2=q3 at*
  simp[q2]
  refine Abs.Next.mk (n,l++[T],q3) [0,1,4] ⟨i1,i2.trans e2,by simp only;omega,by simp;omega⟩ (by simp) ?_
  simp
  exact List.take_of_length_le (by simp)
 ·rw[if_neg q2,zaF q2]at i1
  rw[zaF q2,<-i1]
  rw[Bool.not_eq_true]at q2
  have a3:=zaK hL (bs [93]) _ e1.lt hl
  have z:List.take l.length (List.map ((fun x=>List.map AC.d x)∘Typ.enc) l)=List.map ((fun x=>List.map AC.d x)∘Typ.enc) l:=List.take_of_length_le (by simp)
  simp[q2]
  refine fzK.mk [4] ?_
  simp[zak,z]
  refine zaa.mk [0] a3 (by simp) ?_
  have z2:List.take (l.length+1) (l.map Typ.enc++[T.enc])=l.map Typ.enc++[T.enc]:=List.take_of_length_le (by simp)
  simp[zak,z]
  exact EndM.mk [0] [1] (by simp[zak,z,z2])
set_option maxRecDepth 20000 in
set_option maxHeartbeats 2000000 in
theorem ztN(hL:OkL L)(hl:L.length<=10000){d:Nat}{ex:PS->Nod × PS}(he:Tame L ex)(He:NoOk L 110 d ex)(k:Int)(q0 p:PS)(h:p.at'<L.length)(hd:p.deep=d):
  MCall Pg 167 [.c (.ptr 0 0),.ag [.d (.int .i64 k),.d (.str (bs [])),.d (.int .i64 0),.d (.int .i64 (curT L q0).line),.d (.int .i64 (curT L q0).col),.d (.sl true 4 []),.d (.sl true 1 []),.d (.sl true 8 [])]] [psB L p] (.ag ((zbJ L ex q0 p).1.enc.map .d)) [psB L (zbJ L ex q0 p).2]:=by
 refine zqi ⟨by simp,by simp,by simp,by simp,by simp,by simp,by simp⟩ fun ts hts ok hb c hN hp=>?_
 obtain⟨t,rfl⟩:=zaR hts
 have a1:=zaE (bs [125]) p h hl
 unfold zjE zbJ
 simp
 refine zaa.mk [0] a1 (by simp) ?_
 by_cases q1:(zad L (bs [125]) p).1=true
 ·rw[if_pos q1]
  simp[q1]
  exact EndM.mkE [0] [1] (by simp[zaQ,encS])
 ·rw [if_neg q1,zaF q1]
  rw[Bool.not_eq_true]at q1
  have hg:=zcZ h
  have hnx:p.e=0->(curT L p).kind=1->L[p.at'+1]?=some (L.getD (p.at'+1) zdZ):=fun _ k1=>by
   have hlt:p.at'+1<L.length:=hL.mid _ h (by unfold curT at k1;omega)
   rw[List.getD_eq_getElem?_getD,List.getElem?_eq_getElem hlt];try rfl
  have hnn:(0:Int)<=(p.at':Int)+1:=by omega
  have hw:IntKind.i64.wrap ((p.at':Int)+1)=((p.at'+1:Nat):Int):=by rw[wrap_i64 (by omega) (by omega)];omega
  generalize hN1:L.getD (p.at'+1) zdZ=N at*
  by_cases q2:p.e≠0\/(curT L p).kind≠1\/N.kind≠5\/N.text≠bs [58]
  ·rw [if_pos q2]
   have t1:=he p h
   have t2:=t1.trans (zal hL t1.lt (s:=ziR))
   have t3:=t2.trans (zaI hL t2.lt)
   have t4:=t3.trans (zal hL t3.lt (s:=bs [58]))
   have t5:=t4.trans (he _ t4.lt)
   have b1:=He p h hd
   have b2:=zaK hL ziR _ t1.lt hl
   have b3:=zbG _ t2.lt hl
   have b4:=zaK hL (bs [58]) _ t3.lt hl
   have b5:=He _ t4.lt (by rw[t4.deep,hd])
   have b6:=zaK hL (bs [125]) _ t5.lt hl
   simp only
   generalize (ex p).1=A at*
   generalize (ex p).2=p1 at*
   generalize zay L ziR p1=p2 at*
   generalize (zav L p2).1=s at*
   generalize (zav L p2).2=p3 at*
   generalize zay L (bs [58]) p3=p4 at*
   generalize (ex p4).1=B at*
   generalize (ex p4).2=p5 at*
   generalize zay L (bs [125]) p5=p6 at*
   generalize curT L p=T at*
   have hcs:p.e≠0\/(p.e=0/\T.kind≠1)\/(p.e=0/\T.kind=1/\N.kind≠5)\/(p.e=0/\T.kind=1/\N.kind=5/\N.text≠bs [58]):=by
    by_cases x1:p.e=0
    ·by_cases x2:T.kind=1
     ·by_cases x3:N.kind=5
      ·rcases q2 with q2|q2|q2|q2
       ·exact absurd x1 q2
       ·exact absurd x2 q2
       ·exact absurd x3 q2
       ·exact .inr (.inr (.inr ⟨x1,x2,x3,q2⟩))
      ·exact .inr (.inr (.inl ⟨x1,x2,x3⟩))
     ·exact .inr (.inl ⟨x1,x2⟩)
    ·exact .inl x1
   have hw:IntKind.i64.wrap ((p.at':Int)+1)=((p.at'+1:Nat):Int):=hw
   rcases hcs with x1|⟨x1,x2⟩|⟨x1,x2,x3⟩|⟨x1,x2,x3,x4⟩
   ·simp[q1,hg,x1]
    refine⟨by decide,?_⟩
    refine⟨by decide,?_⟩
    refine zaa.mk [0] b1 (by simp[x1]) ?_
    simp
    refine zaa.mk [0] b2 (by simp) ?_
    simp
    refine zaa.mk [0] b3 (by simp) ?_
    simp
    refine zaa.mk [0] b4 (by simp) ?_
    simp
    refine zaa.mk [0] b5 (by simp) ?_
    simp
    refine zaa.mk [0] b6 (by simp) ?_
    simp
    exact EndM.mkE [0] [1] (by simp[zaQ,encS])
   ·simp[q1,hg,x1,x2]
    refine⟨by decide,?_⟩
    refine⟨by decide,?_⟩
    refine zaa.mk [0] b1 (by simp[x1]) ?_
    simp
    refine zaa.mk [0] b2 (by simp) ?_
    simp
    refine zaa.mk [0] b3 (by simp) ?_
    simp
    refine zaa.mk [0] b4 (by simp) ?_
    simp
    refine zaa.mk [0] b5 (by simp) ?_
    simp
    refine zaa.mk [0] b6 (by simp) ?_
    simp
    exact EndM.mkE [0] [1] (by simp[zaQ,encS])
   ·have hn:=hnx x1 x2
    simp[q1,hg,x1,x2,x3,hn,hw,hnn]
    refine⟨by decide,?_⟩
    refine⟨by decide,?_⟩
    refine zaa.mk [0] b1 (by simp[x1]) ?_
    simp
    refine zaa.mk [0] b2 (by simp) ?_
    simp
    refine zaa.mk [0] b3 (by simp) ?_
    simp
    refine zaa.mk [0] b4 (by simp) ?_
    simp
    refine zaa.mk [0] b5 (by simp) ?_
    simp
    refine zaa.mk [0] b6 (by simp) ?_
    simp
    exact EndM.mkE [0] [1] (by simp[zaQ,encS])
   ·have hn:=hnx x1 x2
    simp[q1,hg,x1,x2,x3,x4,hn,hw,hnn]
    refine⟨by decide,?_⟩
    refine⟨by decide,?_⟩
    refine zaa.mk [0] b1 (by simp[x1]) ?_
    simp
    refine zaa.mk [0] b2 (by simp) ?_
    simp
    refine zaa.mk [0] b3 (by simp) ?_
    simp
    refine zaa.mk [0] b4 (by simp) ?_
    simp
    refine zaa.mk [0] b5 (by simp) ?_
    simp
    refine zaa.mk [0] b6 (by simp) ?_
    simp
    exact EndM.mkE [0] [1] (by simp[zaQ,encS])
  ·rw[if_neg q2]
   have x1:p.e=0:=by
    apply Classical.byContradiction;intro x;exact q2 (.inl x)
   have x2:(curT L p).kind=1:=by
    apply Classical.byContradiction;intro x;exact q2 (.inr (.inl x))
   have x3:N.kind=5:=by
    apply Classical.byContradiction;intro x;exact q2 (.inr (.inr (.inl x)))
   have x4:N.text=bs [58]:=by
    apply Classical.byContradiction;intro x;exact q2 (.inr (.inr (.inr x)))
   have hn:=hnx x1 x2
   obtain⟨F0,hF0⟩:∃F0,zcp L ex (L.length+1) [] [] p=F0:=⟨_,rfl⟩
   simp only
   rw[hF0]
   simp[q1,hg,x1,x2,x3,x4,hn,hw,hnn]
   refine⟨by decide,?_⟩
   refine⟨by decide,?_⟩
   refine owK.mk [.c 2 6,.c 2 7] ?_
   simp
   refine W.loop zab hp (fun x:Nat × List ByteArray × List Nod × PS=>zcp L ex x.1 x.2.1 x.2.2.1 x.2.2.2=F0/\Tm L p x.2.2.2/\L.length<x.1+x.2.2.2.at'/\x.2.1.length=x.2.2.1.length/\x.2.1.length<=x.2.2.2.at')
    (fun x=>[(0,.c (.ptr 0 0)),(3,.c (.ptr 2 0)),(4,.c (.ptr 3 0))])
    (fun x=>[psB L x.2.2.2,.pin t 0,.box [.d (.int .i64 8),.d (.str (bs [])),.d (.int .i64 0),.d (.int .i64 (curT L q0).line),.d (.int .i64 (curT L q0).col),.d (.sl true 4 []),.msl 1 4 0 x.2.1.length,.msl 8 5 0 x.2.2.1.length],box8,.arr 1 ((encS x.2.1).map (·.map .d)),.arr 8 ((x.2.2.1.map Nod.enc).map (·.map .d))])
    (fun x=>x.1) (L.length+1,[],[],p) [0,1,2,3,5,6] ⟨hF0,Tm.refl h,by simp only;omega,rfl,by simp⟩ (by simp[encS,x1]) fun⟨n,ns,ks,q⟩ ⟨i1,i2,i3,i4,i5⟩=>?_
   unfold lp_gp_record_0
   simp only at i1 i2 i4 i5
   have i3:L.length<n+q.at':=i3
   have hlt:=i2.lt
   obtain⟨n,rfl⟩:∃m,n=m+1:=⟨n-1,by omega⟩
   rw[zcp]at i1
   have e1:=zaI hL hlt
   have e2:=e1.trans (zal hL e1.lt (s:=bs [58]))
   have e3:=e2.trans (he _ e2.lt)
   have e4:=e3.trans (zag hL e3.lt (s:=bs [44]))
   have c1:=zbG q hlt hl
   have c2:=zaK hL (bs [58]) _ e1.lt hl
   have c3:=He _ e2.lt (by rw[e2.deep,i2.deep,hd])
   have c4:=zaE (bs [44]) _ e3.lt hl
   generalize (zav L q).1=s1 at*
   generalize (zav L q).2=q1' at*
   generalize zay L (bs [58]) q1'=q2' at*
   generalize (ex q2').1=k1 at*
   generalize (ex q2').2=q3' at*
   simp
   refine zaa.mk [0] c1 (by simp) ?_
   simp
   refine zaa.mk [0] c2 (by simp) ?_
   simp
   refine zaa.mk [0] c3 (by simp) ?_
   simp
   refine⟨by omega,by omega,?_⟩
   refine zaa.mk [0] c4 (by simp) ?_
   by_cases q5:(zad L (bs [44]) q3').1=true
   ·rw[if_pos q5]at i1
    have ha:=(take_at q5).1
    have hb':=e3.le
    simp[q5]
    refine Abs.Next.mk (n,ns++[s1],ks++[k1],(zad L (bs [44]) q3').2) [0,1,2,3,7,8] ⟨i1,i2.trans e4,by simp only;omega,by simp[i4],by simp;omega⟩ (by simp) ?_
    simp
    exact⟨List.take_of_length_le (by simp),List.take_of_length_le (by simp)⟩
   ·rw[if_neg q5,zaF q5]at i1
    rw[<-i1]
    have c5:=zaK hL (bs [125]) _ e3.lt hl
    rw[zaF q5]
    rw[Bool.not_eq_true]at q5
    simp[q5]
    refine fzK.mk [7,8] ?_
    have k1':List.take ns.length (List.map (fun x=>List.map AC.d x) (encS ns))=List.map (fun x=>List.map AC.d x) (encS ns):=List.take_of_length_le (by simp)
    have k2':List.take ks.length (List.map ((fun x=>List.map AC.d x)∘Nod.enc) ks)=List.map ((fun x=>List.map AC.d x)∘Nod.enc) ks:=List.take_of_length_le (by simp)
    simp[zak,k1',k2']
    refine zaa.mk [0] c5 (by simp) ?_
    simp[zak,k1',k2']
    have z1:D.erdE (List.take (ns.length+1) (encS ns++[[D.str s1]]))=encS ns++[[D.str s1]]:=by
     rw[List.take_of_length_le (by simp)]
     simpa only[encS_app,zpM]using zho (ns++[s1])
    have z2:D.erdE (List.take (ks.length+1) (ks.map Nod.enc++[k1.enc]))=ks.map Nod.enc++[k1.enc]:=by
     rw[List.take_of_length_le (by simp)]
     simpa using zzv (ks++[k1])
    exact EndM.mkE [0] [1] (by simp[zaQ,zak,k1',k2',z1,z2])
end
end Go.Gr
namespace Go.Gr
open Go.Abs Go.Proofs
theorem zbq(s:ByteArray):s.data.toList.length=s.size:=by rw[Array.length_toList];try rfl
theorem zcD{s:ByteArray}{j:Nat}(h:j<s.data.toList.length):s.data[j]?=some s.data.toList[j]:=by
 simp at h⊢
theorem wrap_u64{n:Int}(h1:0<=n)(h2:n<=18446744073709551615):IntKind.u64.wrap n=n:=znq (by simpa[IntKind.min,IntKind.bits,IntKind.signed]using h1) (by simpa[IntKind.max,IntKind.bits,IntKind.signed]using h2)
theorem wrap_u8{n:Int}(h1:0<=n)(h2:n<=255):IntKind.u8.wrap n=n:=znq (by simpa[IntKind.min,IntKind.bits,IntKind.signed]using h1) (by simpa[IntKind.max,IntKind.bits,IntKind.signed]using h2)
theorem zxH(j:Nat):10^(j+1)=10*10^j:=by rw[Nat.pow_succ];omega
set_option maxRecDepth 20000 in
set_option maxHeartbeats 1000000 in
theorem zqQ(s:ByteArray):PCall Pg 155 [.one (.str s)] (.tup [.one (.int .i64 (zcA s).1),.one (.bool (zcA s).2)]):=by
 refine zrE (by simp) fun o c hN hp=>?_
 have hs:s.size<=zah:=by have:=o.1;simpa only[DV.ok,D.ok]using this
 unfold zah at hs
 have hlen:=zbq s
 unfold zjz
 by_cases h0:s.size=0
 ·have e:zcA s=(0,false):=by unfold zcA ze9;rw[if_pos (by left;omega)]
  have h0':(s.size:Int)=0:=by omega
  rw[e]
  simp[h0,h0']
 by_cases h19:19<s.size
 ·have e:zcA s=(0,false):=by unfold zcA ze9;rw[if_pos (by right;left;omega)]
  have h0':¬(s.size:Int)=0:=by omega
  have h19':(19:Int)<s.size:=by omega
  rw[e]
  simp[h0,h0',h19']
 have h0':¬(s.size:Int)=0:=by omega
 have h19':¬(19:Int)<s.size:=by omega
 have hj0:0<s.data.toList.length:=by omega
 have hb0:=zcD hj0
 have hd0:s.data.toList.head?=some s.data.toList[0]:=by
  rw[List.head?_eq_getElem?,List.getElem?_eq_getElem hj0]
 generalize hB:s.data.toList[0]=b0 at hb0 hd0
 by_cases hz:b0=48/\1<s.size
 ·have e:zcA s=(0,false):=by unfold zcA ze9;rw[if_pos (by right;right;rw[hd0,hz.1];exact⟨rfl,by omega⟩)]
  have h1:(1:Int)<s.size:=by omega
  rw[e]
  simp[h0,h0',h19',hb0,hz.1,h1]
 have hz':¬((b0.toNat:Int)=48/\(1:Int)<s.size):=by
  rintro⟨x,y⟩
  exact hz ⟨by apply UInt8.toNat_inj.mp;simpa using (by omega:b0.toNat=48),by omega⟩
 have e:zcA s=match numL s.data.toList 0 with
  |none=>(0,false)
  |some n=>if 9223372036854775807<n then(0,false)else((n:Int),true):=by
  unfold zcA ze9
  have hn:¬(s.data.toList.length=0\/19<s.data.toList.length\/(s.data.toList.head?=some 48/\1<s.data.toList.length)):=by
   rintro(x|x|⟨x,y⟩)
   ·omega
   ·omega
   ·rw[hd0]at x
    exact hz ⟨by simpa using x,by omega⟩
  rw[if_neg hn]
  cases numL s.data.toList 0<;>rfl
 rw[e]
 have hgo:∀K:Prop,K=K:=fun _=>rfl
 by_cases q1:(b0.toNat:Int)=48<;>by_cases q2:(1:Int)<s.size
 ·exact absurd ⟨q1,q2⟩ hz'
 all_goals
  simp[h0,h0',h19',hb0,q1,q2]
  refine W.loop zab hp (fun x:Nat × Nat=>x.1<=s.size/\x.2<10^x.1/\numL (s.data.toList.drop x.1) x.2=numL s.data.toList 0) (fun x=>[(0,.c (.d (.str s))),(4,.c (.d (.int .u64 x.2))),(5,.c (.d (.int .i64 x.1)))]) (fun _=>[]) (fun x=>s.size-x.1) (0,0) [] ⟨by simp,by simp,by simp⟩ (by simp) fun⟨j,n⟩ ⟨i1,i2,i3⟩=>?_
  unfold zhA
  simp only at i1 i2 i3
  simp
  refine gd.mk (fun h=>?_) (fun h=>?_)
  ·have hj:j<s.size:=by simpa using h
   have hj':j<s.data.toList.length:=by omega
   rw[List.drop_eq_getElem_cons hj',numL]at i3
   have hb:=zcD hj'
   generalize s.data.toList[j]=b at i3 hb
   by_cases d1:(b.toNat:Int)<48
   ·have hd:¬digU b=true:=by unfold digU digV;simp;omega
    rw[if_neg hd]at i3
    rw[<-i3]
    simp[hb,d1]
   ·by_cases d2:(57:Int)<b.toNat
    ·have hd:¬digU b=true:=by unfold digU digV;simp;omega
     rw[if_neg hd]at i3
     rw[<-i3]
     simp[hb,d1,d2]
    ·have hd:digU b=true:=by unfold digU digV;simp;omega
     rw[if_pos hd]at i3
     have hpw:10^(j+1)<=10^19:=Nat.pow_le_pow_right (by omega) (by omega)
     have hps:=zxH j
     have w1:IntKind.u64.wrap (10*(n:Int))=((10*n:Nat):Int):=by rw[wrap_u64 (by omega) (by omega)];omega
     have w2:IntKind.u8.wrap ((b.toNat:Int)-48)=((b.toNat-48:Nat):Int):=by rw[wrap_u8 (by omega) (by omega)];omega
     have w3:IntKind.u64.wrap (((b.toNat-48:Nat):Int))=((b.toNat-48:Nat):Int):=by rw[wrap_u64 (by omega) (by omega)]
     have w4:IntKind.u64.wrap (((10*n:Nat):Int)+((b.toNat-48:Nat):Int))=((10*n+(b.toNat-48):Nat):Int):=by rw[wrap_u64 (by omega) (by omega)];omega
     simp[hb,d1,d2]
     refine Abs.Next.mk (j+1,10*n+(b.toNat-48)) [] ⟨by simp only;omega,by simp only;omega,i3⟩ (by simp only;omega) ?_
     simp only[w1,w2,w3,w4]
     simp
     exact wrap_i64 (by omega) (by omega)
  ·have hj:j=s.size:=by simp at h;omega
   subst hj
   rw[List.drop_of_length_le (by omega),numL]at i3
   rw[<-i3]
   simp only
   have hpw:10^s.size<=10^19:=Nat.pow_le_pow_right (by omega) (by omega)
   by_cases hm:9223372036854775807<n
   ·have hm':(9223372036854775807:Int)<n:=by omega
    rw[if_pos hm]
    simp[hm,hm']
   ·have hm':¬(9223372036854775807:Int)<n:=by omega
    rw[if_neg hm]
    simp[hm,hm']
    exact wrap_i64 (by omega) (by omega)
end Go.Gr
namespace Go.Gr
open Go.Abs Go.Proofs
section
variable {L:List Tok}
set_option maxRecDepth 20000 in
set_option maxHeartbeats 4000000 in
theorem zxT(hL:OkL L)(hl:L.length<=10000){d:Nat}{ki:PS->Typ × PS}{ex:PS->Nod × PS}(hk:Tame L ki)(Hk:KiOk L d ki)(he:Tame L ex)(He:NoOk L 110 d ex):
  NoOk L 166 d (zdE L ki ex):=by
 intro p h hd
 refine ztI ⟨by simp,by simp,by simp,by simp,by simp,by simp,by simp⟩ fun ts hts ok hb c hN hp=>?_
 obtain⟨t,rfl⟩:=zaR hts
 have a0:=zhf (L:=L) 2 p h
 have hg:=zcZ h
 have hw:IntKind.i64.wrap ((p.at':Int)+1)=((p.at'+1:Nat):Int):=by rw[wrap_i64 (by omega) (by omega)];omega
 have hpz:=zqQ (curT L p).text
 unfold mc_gp_atom zdE numV
 simp only
 by_cases c1:p.e=0/\(curT L p).kind=3
 ·rw[if_pos c1]
  obtain⟨x1,x2⟩:=c1
  simp
  refine zaa.mk [0] a0 (by simp) ?_
  simp[hg,x1,x2,hw]
  refine⟨by decide,?_⟩
  refine zac.mk hpz ?_
  simp
  exact EndM.mkE [0] [1] (by simp[zaQ,encS,x1])
 rw[if_neg c1]
 by_cases c2:p.e=0/\(curT L p).kind=4
 ·rw[if_pos c2]
  obtain⟨x1,x2⟩:=c2
  simp
  refine zaa.mk [0] a0 (by simp) ?_
  simp[hg,x1,x2,hw]
  refine⟨by decide,?_⟩
  exact EndM.mkE [0] [1] (by simp[zaQ,encS,x1])
 rw[if_neg c2]
 have d1:=zaE ziS p h hl
 have d2:=zaE zgA p h hl
 have d3:=zaE ziT p h hl
 have d4:=zaE zeE p h hl
 have d5:=zaE zcW p h hl
 have d6:=zaE (bs [40]) p h hl
 have d7:=zaE (bs [123]) p h hl
 have d8:=zbG p h hl
 have n1:p.e=0->¬(curT L p).kind=3:=fun x y=>c1 ⟨x,y⟩
 have n2:p.e=0->¬(curT L p).kind=4:=fun x y=>c2 ⟨x,y⟩
 simp
 refine zaa.mk [0] a0 (by simp) ?_
 by_cases x:p.e=0
 simp[hg,x,n1 x,n2 x]
 rotate_left
 simp[hg,x]
 all_goals
  refine⟨by decide,?_⟩
  refine zaa.mk [0] d1 (by simp[x]) ?_
  by_cases q1:(zad L ziS p).1=true
  ·rw[if_pos q1]
   simp[q1]
   exact EndM.mkE [0] [1] (by simp[zaQ,encS])
  rw[if_neg q1,zaF q1]
  rw[Bool.not_eq_true]at q1
  simp[q1]
  refine zaa.mk [0] d2 (by simp) ?_
  by_cases q2:(zad L zgA p).1=true
  ·rw[if_pos q2]
   simp[q2]
   exact EndM.mkE [0] [1] (by simp[zaQ,encS])
  rw[if_neg q2,zaF q2]
  rw[Bool.not_eq_true]at q2
  simp[q2]
  refine zaa.mk [0] d3 (by simp) ?_
  by_cases q3:(zad L ziT p).1=true
  ·rw[if_pos q3]
   simp[q3]
   exact EndM.mkE [0] [1] (by simp[zaQ,encS])
  rw[if_neg q3,zaF q3]
  rw[Bool.not_eq_true]at q3
  simp[q3]
  refine zaa.mk [0] d4 (by simp) ?_
  by_cases q4:(zad L zeE p).1=true
  ·rw[if_pos q4]
   have t1:=zag hL h (s:=zeE)
   have t2:=t1.trans (zal hL t1.lt (s:=bs [40]))
   have b1:=zaK hL (bs [40]) _ t1.lt hl
   have b2:=zaK hL (bs [41]) _ t2.lt hl
   generalize (zad L zeE p).2=p1 at*
   generalize zay L (bs [40]) p1=p2 at*
   generalize zay L (bs [41]) p2=p3 at*
   simp[q4]
   refine zaa.mk [0] b1 (by simp) ?_
   simp
   refine zaa.mk [0] b2 (by simp) ?_
   simp
   exact EndM.mkE [0] [1] (by simp[zaQ,encS])
  rw[if_neg q4,zaF q4]
  rw[Bool.not_eq_true]at q4
  simp[q4]
  refine zaa.mk [0] d5 (by simp) ?_
  by_cases q5:(zad L zcW p).1=true
  ·rw[if_pos q5]
   have t1:=zag hL h (s:=zcW)
   have t2:=t1.trans (zal hL t1.lt (s:=bs [40]))
   have t3:=t2.trans (he _ t2.lt)
   have b1:=zaK hL (bs [40]) _ t1.lt hl
   have b2:=He _ t2.lt (by rw[t2.deep,hd])
   have b3:=zaK hL (bs [41]) _ t3.lt hl
   generalize (zad L zcW p).2=p1 at*
   generalize zay L (bs [40]) p1=p2 at*
   generalize (ex p2).1=A at*
   generalize (ex p2).2=p3 at*
   generalize zay L (bs [41]) p3=p4 at*
   simp[q5]
   refine zaa.mk [0] b1 (by simp) ?_
   simp
   refine zaa.mk [0] b2 (by simp) ?_
   simp
   refine zaa.mk [0] b3 (by simp) ?_
   simp
   exact EndM.mkE [0] [1] (by simp[zaQ,encS])
  rw[if_neg q5,zaF q5]
  rw[Bool.not_eq_true]at q5
  simp[q5]
  refine zaa.mk [0] d6 (by simp) ?_
  by_cases q6:(zad L (bs [40]) p).1=true
  ·rw[if_pos q6]
   have t1:=zag hL h (s:=bs [40])
   have t2:=t1.trans (he _ t1.lt)
   have b1:=He _ t1.lt (by rw[t1.deep,hd])
   have b2:=zaK hL (bs [41]) _ t2.lt hl
   generalize (zad L (bs [40]) p).2=p1 at*
   generalize (ex p1).1=A at*
   generalize (ex p1).2=p2 at*
   generalize zay L (bs [41]) p2=p3 at*
   simp[q6]
   refine zaa.mk [0] b1 (by simp) ?_
   simp
   refine zaa.mk [0] b2 (by simp) ?_
   simp
   exact EndM.mk [0] [1] (by simp)
  rw[if_neg q6,zaF q6]
  rw[Bool.not_eq_true]at q6
  simp[q6]
  refine zaa.mk [0] d7 (by simp) ?_
  by_cases q7:(zad L (bs [123]) p).1=true
  ·rw[if_pos q7]
   have t1:=zag hL h (s:=bs [123])
   have b1:=ztN hL hl he He 2 p _ t1.lt (by rw[t1.deep,hd])
   generalize (zad L (bs [123]) p).2=p1 at*
   generalize (zbJ L ex p p1).1=A at*
   generalize (zbJ L ex p p1).2=p2 at*
   simp[q7]
   refine zaa.mk [0] b1 (by simp) ?_
   simp
   exact EndM.mk [0] [1] (by simp)
  rw[if_neg q7,zaF q7]
  rw[Bool.not_eq_true]at q7
  have t1:=zaI hL h
  have b1:=zaE (bs [91]) _ t1.lt hl
  generalize (zav L p).1=s1 at*
  generalize (zav L p).2=p1 at*
  simp[q7]
  refine zaa.mk [0] d8 (by simp) ?_
  simp
  refine zaa.mk [0] b1 (by simp) ?_
  by_cases q8:(zad L (bs [91]) p1).1=true
  ·rw[if_pos q8]
   have t2:=t1.trans (zag hL t1.lt (s:=bs [91]))
   have b2:=zvo hL hl hk Hk _ t2.lt (by rw[t2.deep,hd])
   generalize (zad L (bs [91]) p1).2=p2 at*
   generalize (zco L ki (L.length+1) [] p2).1=T at*
   generalize (zco L ki (L.length+1) [] p2).2=p3 at*
   simp[q8]
   refine zaa.mk [0] b2 (by simp) ?_
   simp
   exact EndM.mkE [0] [1] (by simp[zaQ,encS])
  rw[if_neg q8,zaF q8]
  rw[Bool.not_eq_true]at q8
  simp[q8]
  exact EndM.mkE [0] [1] (by simp[zaQ,encS])
theorem zvZ(hL:OkL L)(hl:L.length<=10000):∀(n:Nat) (d:Nat),d<=100->101<=d+n->NoOk L 110 d (euP L (kiP L) n).1/\NoOk L 163 d (euP L (kiP L) n).2
 |0,d,h1,h2=>by omega
 | n+1,d,h1,h2=>by
  have hk:Tame L (kiP L):=znB hL 102
  have ht:=zmL hL hk n
  have htn:=zmL hL hk (n+1)
  rw[euP]at htn⊢
  by_cases hd:d=100
  ·subst hd
   have hr:=zhF hL hk ht.2
   refine⟨fun p h hdp=>?_,fun p h hdp=>?_⟩
   ·exact zqz hL hl (znC hL hk ht.1 hr.2.2.2.2.2) p h (by omega) (fun q=>absurd q (by omega))
   ·exact zoE hL hl hk ht.1 ht.2 p h (by omega) (fun q=>absurd q (by omega)) (fun q=>absurd q (by omega))
  ·have ih:=zvZ hL hl n (d+1) (by omega) (by omega)
   have Hk:KiOk L (d+1) (kiP L):=fun r hr hd=>zlo hL hl 102 r hr (by omega) (by omega)
   have Ha:=zxT hL hl hk Hk ht.1 ih.1
   have Hp:=zxq hL hl (zkr hL hk ht.1) Ha ht.1 ih.1
   have H6:=zu0 ih.2
   have hr:=zhF hL hk ht.2
   have H5:=zgf hL hl (k:=5) (by decide) (by decide) ht.2 H6
   have H4:=zgf hL hl (k:=4) (by decide) (by decide) hr.1 H5
   have H3:=zgf hL hl (k:=3) (by decide) (by decide) hr.2.1 H4
   have H2:=zu1 (zyD hL hl hk Hk hr.2.2.1 H3)
   have H1:=zgf hL hl (k:=1) (by decide) (by decide) hr.2.2.2.1 H2
   have H0:=zgf hL hl (k:=0) (by decide) (by decide) hr.2.2.2.2.1 H1
   refine⟨fun p h hdp=>?_,fun p h hdp=>?_⟩
   ·subst hdp
    exact zqz hL hl (znC hL hk ht.1 hr.2.2.2.2.2) p h (by omega) (fun _ q hq hdq=>zwD hL hl hk Hk ht.1 ih.1 H0 q hq hdq)
   ·subst hdp
    exact zoE hL hl hk ht.1 ht.2 p h (by omega) (fun _=>ih.2) (fun _=>Hp)
end
end Go.Gr
namespace Go.Gr
open Go.Abs Go.Proofs
def encV(v:ByteArray × Typ):List D:=.str v.1::v.2.enc
def Imp.enc(i:Imp):List D:=[.str i.from_,.sl false 1 (encS i.names),.int .i64 i.line,.int .i64 i.col]
def Dec.enc(d:Dec):List D:=[.str d.name,.bool d.exp,.sl false 5 (d.vars.map encV),.str d.param,.sl false 4 (d.types.map Typ.enc)]++d.body.enc++[.int .i64 d.line,.int .i64 d.col]
def Mdl.enc(m:Mdl):List D:=[.sl false 4 (m.imps.map Imp.enc),.sl false 15 (m.decs.map Dec.enc)]
@[simp] theorem zAb(v:ByteArray × Typ):(encV v).length=5:=by simp[encV]
@[simp] theorem Imp.enc_length(v:Imp):v.enc.length=4:=rfl
@[simp] theorem Dec.enc_length(v:Dec):v.enc.length=15:=by simp[Dec.enc]
@[simp] theorem Mdl.enc_length(v:Mdl):v.enc.length=2:=rfl
theorem zn9(v:ByteArray × Typ):D.erdL (encV v)=encV v:=by simp[encV]
theorem zoa:∀l:List (ByteArray × Typ),D.erdE (l.map encV)=l.map encV
 |[]=>rfl
 |v::l=>by simp only[List.map_cons,D.erdE,zn9,zoa l]
@[simp] theorem zwM:∀a b:List D,D.erdL (a++b)=D.erdL a++D.erdL b
 |[],_=>rfl
 |x::a,b=>by simp only[List.cons_append,D.erdL,zwM a b]
@[simp] theorem zlp:∀a b:List (List D),D.erdE (a++b)=D.erdE a++D.erdE b
 |[],_=>rfl
 |x::a,b=>by simp only[List.cons_append,D.erdE,zlp a b]
attribute [simp] zn9 zoa
@[simp] theorem Imp.erdL(v:Imp):D.erdL v.enc=v.enc:=by simp[Imp.enc]
@[simp] theorem Imp.erdE:∀l:List Imp,D.erdE (l.map Imp.enc)=l.map Imp.enc
 |[]=>rfl
 |v::l=>by simp only[List.map_cons,D.erdE,Imp.erdL,Imp.erdE l]
@[simp] theorem zAY(a b c d e:AC)(T:Typ):splice [a,b,c,d,e] 1 (T.enc.map AC.d)=a::T.enc.map .d:=by rw[T.enc_eq];try rfl
theorem zlq:∀v:List (List D),(D.erdE v).length=v.length
 |[]=>rfl
 |d::v=>by simp only[D.erdE,List.length_cons,zlq v]
section
variable {L:List Tok}
theorem zh8(hL:OkL L):∀(n:Nat) (l:List ByteArray),Tame L (zbR L n l)
 |0,l,p,hp=>Tm.refl hp
 |n+1,l,p,hp=>by
  have h1:=zaI hL hp
  have h2:=h1.trans (zag hL h1.lt (s:=bs [44]))
  rw[zbR]
  split
  ·exact h2.trans (zh8 hL n _ _ h2.lt)
  ·exact h2
theorem zcB(hL:OkL L):Tame L (kiP L):=znB hL 102
theorem zkh(hL:OkL L):Tame L (exP L):=(zmL hL (zcB hL) 102).1
theorem zyq(hL:OkL L)(hl:L.length<=10000):KiOk L 0 (kiP L):=fun r hr hd=>zlo hL hl 102 r hr (by omega) (by omega)
theorem zAj(hL:OkL L)(hl:L.length<=10000):NoOk L 110 0 (exP L):=(zvZ hL hl 102 0 (by omega) (by omega)).1
def bndP(L:List Tok)(p:PS):Typ × PS:=if(zad L (bs [60,58]) p).1=true then kiP L (zad L (bs [60,58]) p).2 else(noT,p)
theorem zzz(hL:OkL L):Tame L (bndP L):=fun p hp=>by
 unfold bndP
 split
 ·have h1:=zag hL hp (s:=bs [60,58])
  exact h1.trans (zcB hL _ h1.lt)
 ·exact Tm.refl hp
theorem zpR(n:Nat)(l:List (ByteArray × Typ))(p:PS):zeF L (n+1) l p=if(zad L (bs [44]) (bndP L (zav L p).2).2).1=true then zeF L n (l++[((zav L p).1,(bndP L (zav L p).2).1)]) (zad L (bs [44]) (bndP L (zav L p).2).2).2 else(l++[((zav L p).1,(bndP L (zav L p).2).1)],zay L (bs [93]) (zad L (bs [44]) (bndP L (zav L p).2).2).2):=by
 rw[zeF];try rfl
theorem zpS(hL:OkL L):∀(n:Nat) (l:List (ByteArray × Typ)),Tame L (zeF L n l)
 |0,l,p,hp=>Tm.refl hp
 |n+1,l,p,hp=>by
  have h1:=zaI hL hp
  have h2:=h1.trans (zzz hL _ h1.lt)
  have h3:=h2.trans (zag hL h2.lt (s:=bs [44]))
  rw[zpR]
  split
  ·exact h3.trans (zpS hL n _ _ h3.lt)
  ·exact h3.trans (zal hL h3.lt)
theorem zki(hL:OkL L):Tame L (zeG L):=fun p hp=>by
 unfold zeG
 split
 ·have h1:=zag hL hp (s:=bs [91])
  exact h1.trans (zpS hL _ _ _ h1.lt)
 ·exact Tm.refl hp
theorem zhp(hL:OkL L):∀(n:Nat) (l:List Imp),Tame L (zdG L n l)
 |0,l,p,hp=>Tm.refl hp
 | n+1,l,p,hp=>by
  rw[zdG]
  split
  ·have h1:=zag hL hp (s:=zb4)
   have h2:=h1.trans (zaI hL h1.lt)
   have h3:=h2.trans (zal hL h2.lt (s:=bs [58]))
   have h4:=h3.trans (zh8 hL (L.length+1) [] _ h3.lt)
   have h5:=h4.trans (zal hL h4.lt (s:=bs [59]))
   exact h5.trans (zhp hL n _ _ h5.lt)
  ·exact Tm.refl hp
theorem zpT(hL:OkL L):Tame L (decP L):=fun p hp=>by
 have h1:=zag hL hp (s:=zdF)
 have h2:=h1.trans (zal hL h1.lt (s:=wFn))
 have h3:=h2.trans (zaI hL h2.lt)
 have h4:=h3.trans (zki hL _ h3.lt)
 have h5:=h4.trans (zeh hL (zcB hL) _ h4.lt)
 have h6:=h5.trans (zal hL h5.lt (s:=bs [61]))
 have h7:=h6.trans (zkh hL _ h6.lt)
 exact h7.trans (zal hL h7.lt (s:=bs [59]))
theorem zkj(hL:OkL L):∀(n:Nat) (l:List Dec),Tame L (zbO L n l)
 |0,l,p,hp=>Tm.refl hp
 | n+1,l,p,hp=>by
  rw[zbO]
  split
  ·have h1:=zpT hL _ hp
   exact h1.trans (zkj hL n _ _ h1.lt)
  ·exact Tm.refl hp
theorem zuT(hL:OkL L):Tame L (zel L):=fun p hp=>by
 have h1:=zhp hL (L.length+1) [] _ hp
 exact h1.trans (zkj hL (L.length+1) [] _ h1.lt)
set_option maxRecDepth 20000 in
set_option maxHeartbeats 2000000 in
theorem zuU(hL:OkL L)(hl:L.length<=10000)(p:PS)(h:p.at'<L.length):
  MCall Pg 107 [.c (.ptr 0 0)] [psB L p] (.c (.d (.sl false 1 (encS (zbR L (L.length+1) [] p).1)))) [psB L (zbR L (L.length+1) [] p).2]:=by
 refine zrM ⟨by simp,by simp,by simp,by simp,by simp,by simp,by simp⟩ fun ts hts ok hb c hN hp=>?_
 obtain⟨t,rfl⟩:=zaR hts
 obtain⟨F0,hF0⟩:∃F0,zbR L (L.length+1) [] p=F0:=⟨_,rfl⟩
 rw[hF0]
 unfold zk5
 simp
 refine owK.mk [.t 3] ?_
 simp
 refine W.loop zab hp (fun x:Nat × List ByteArray × PS=>zbR L x.1 x.2.1 x.2.2=F0/\Tm L p x.2.2/\L.length<x.1+x.2.2.at'/\x.2.1.length<=x.2.2.at')
  (fun x=>[(0,.c (.ptr 0 0)),(3,.c (.msl 1 2 0 x.2.1.length))])
  (fun x=>[psB L x.2.2,.pin t 0,.arr 1 ((encS x.2.1).map (·.map .d))])
  (fun x=>x.1) (L.length+1,[],p) [0,1,2] ⟨hF0,Tm.refl h,by simp only;omega,by simp⟩ (by simp) fun⟨n,l,q⟩ ⟨i1,i2,i3,i4⟩=>?_
 unfold lp_gp_names_0
 simp only at i1 i2 i4
 have i3:L.length<n+q.at':=i3
 have hlt:=i2.lt
 obtain⟨n,rfl⟩:∃m,n=m+1:=⟨n-1,by omega⟩
 rw[zbR]at i1
 have e1:=zaI hL hlt
 have le1:=e1.le
 have a1:=zbG q hlt hl
 have a2:=zaE (bs [44]) _ e1.lt hl
 generalize (zav L q).1=s at*
 generalize (zav L q).2=q1 at*
 simp
 refine zaa.mk [0] a1 (by simp) ?_
 simp
 refine⟨by omega,?_⟩
 refine zaa.mk [0] a2 (by simp) ?_
 by_cases q2:(zad L (bs [44]) q1).1=true
 ·rw[if_pos q2]at i1
  have hat:=(take_at q2).1
  have e2:=e1.trans (zag hL e1.lt (s:=bs [44]))
  generalize (zad L (bs [44]) q1).2=q3 at*
  simp[q2]
  refine Abs.Next.mk (n,l++[s],q3) [0,1,3] ⟨i1,i2.trans e2,by simp only;omega,by simp;omega⟩ (by simp) ?_
  simp
  exact List.take_of_length_le (by simp)
 ·rw[if_neg q2,zaF q2]at i1
  rw[zaF q2,<-i1]
  rw[Bool.not_eq_true]at q2
  have z:List.take l.length (List.map (fun x=>List.map AC.d x) (encS l))=List.map (fun x=>List.map AC.d x) (encS l):=List.take_of_length_le (by simp)
  have z2:List.take (l.length+1) (encS l++[[.str s]])=encS l++[[.str s]]:=List.take_of_length_le (by simp)
  simp[q2]
  refine fzK.mk [3] ?_
  simp[zak,z]
  exact EndM.mk [0] [1] (by simp[zak,z,z2])
set_option maxRecDepth 20000 in
set_option maxHeartbeats 2000000 in
theorem zwN(hL:OkL L)(hl:L.length<=10000)(p:PS)(h:p.at'<L.length)(hd:p.deep=0):
  MCall Pg 108 [.c (.ptr 0 0)] [psB L p] (.c (.d (.sl false 5 ((zeG L p).1.map encV)))) [psB L (zeG L p).2]:=by
 refine ztJ ⟨by simp,by simp,by simp,by simp,by simp,by simp,by simp⟩ fun ts hts ok hb c hN hp=>?_
 obtain⟨t,rfl⟩:=zaR hts
 have c1:=zaE (bs [91]) p h hl
 unfold zmz zeG
 simp
 refine zaa.mk [0] c1 (by simp) ?_
 by_cases q0:(zad L (bs [91]) p).1=true
 ·rw[if_pos q0]
  have t1:=zag hL h (s:=bs [91])
  obtain⟨F0,hF0⟩:∃F0,zeF L (L.length+1) [] (zad L (bs [91]) p).2=F0:=⟨_,rfl⟩
  rw[hF0]
  generalize (zad L (bs [91]) p).2=p1 at*
  have hd1:p1.deep=0:=by rw[t1.deep,hd]
  simp[q0]
  refine owK.mk [.t 3] ?_
  simp
  refine W.loop zab hp (fun x:Nat × List (ByteArray × Typ) × List (List D) × PS=>zeF L x.1 x.2.1 x.2.2.2=F0/\Tm L p1 x.2.2.2/\L.length<x.1+x.2.2.2.at'/\x.2.1.length<=x.2.2.2.at'/\D.erdE x.2.2.1=x.2.1.map encV)
   (fun x=>[(0,.c (.ptr 0 0)),(3,.c (.msl 5 2 0 x.2.2.1.length))])
   (fun x=>[psB L x.2.2.2,.pin t 0,.arr 5 (x.2.2.1.map (·.map .d))])
   (fun x=>x.1) (L.length+1,[],[],p1) [0,1,2] ⟨hF0,Tm.refl t1.lt,by simp only;omega,by simp,rfl⟩ (by simp) fun⟨n,l,v,q⟩ ⟨i1,i2,i3,i4,i5⟩=>?_
  unfold lp_gp_vars_0
  simp only at i1 i2 i4 i5
  have i3:L.length<n+q.at':=i3
  have hvl:v.length=l.length:=by rw[<-zlq,i5,List.length_map]
  have hlt:=i2.lt
  obtain⟨n,rfl⟩:∃m,n=m+1:=⟨n-1,by omega⟩
  rw[zpR]at i1
  have e1:=zaI hL hlt
  have le1:=e1.le
  have a1:=zbG q hlt hl
  have a2:=zaE (bs [60,58]) _ e1.lt hl
  generalize (zav L q).1=s at*
  generalize (zav L q).2=q1 at*
  simp
  refine zaa.mk [0] a1 (by simp) ?_
  simp
  refine zaa.mk [0] a2 (by simp) ?_
  unfold bndP at i1
  by_cases b1:(zad L (bs [60,58]) q1).1=true
  ·rw[if_pos b1]at i1
   have e2:=e1.trans (zag hL e1.lt (s:=bs [60,58]))
   have e3:=e2.trans (zcB hL _ e2.lt)
   have hat:=(take_at b1).1
   have le3:=(zcB hL _ e2.lt).le
   have a3:=zyq hL hl _ e2.lt (by rw[e2.deep,i2.deep,hd1])
   have a4:=zaE (bs [44]) _ e3.lt hl
   generalize (zad L (bs [60,58]) q1).2=q2 at*
   generalize (kiP L q2).1=T at*
   generalize (kiP L q2).2=q3 at*
   simp[b1]
   refine zaa.mk [0] a3 (by simp) ?_
   simp
   refine⟨by omega,?_⟩
   refine zaa.mk [0] a4 (by simp) ?_
   by_cases q2:(zad L (bs [44]) q3).1=true
   ·rw[if_pos q2]at i1
    have hat:=(take_at q2).1
    have e4:=e3.trans (zag hL e3.lt (s:=bs [44]))
    generalize (zad L (bs [44]) q3).2=q4 at*
    simp[q2]
    refine Abs.Next.mk (n,l++[(s,T)],v++[.str s::T.enc],q4) [0,1,4] ⟨i1,i2.trans e4,by simp only;omega,by simp;omega,by simp[i5,encV]⟩ (by simp) ?_
    simp
    exact List.take_of_length_le (by simp)
   ·rw[if_neg q2,zaF q2]at i1
    rw[zaF q2,<-i1]
    rw[Bool.not_eq_true]at q2
    have a3:=zaK hL (bs [93]) _ e3.lt hl
    have z:List.take v.length (List.map (fun x=>List.map AC.d x) v)=List.map (fun x=>List.map AC.d x) v:=List.take_of_length_le (by simp)
    have z2:List.take (v.length+1) (v++[.str s::T.enc])=v++[.str s::T.enc]:=List.take_of_length_le (by simp)
    simp[q2]
    refine fzK.mk [4] ?_
    simp[zak,z]
    refine zaa.mk [0] a3 (by simp) ?_
    simp[zak,z]
    exact EndM.mkE [0] [1] (by simp[zak,z,z2,i5,encV])
  ·rw[if_neg b1]at i1
   rw[zaF b1]
   rw[Bool.not_eq_true]at b1
   have a4:=zaE (bs [44]) _ e1.lt hl
   simp[b1]
   refine⟨by omega,?_⟩
   refine zaa.mk [0] a4 (by simp) ?_
   by_cases q2:(zad L (bs [44]) q1).1=true
   ·rw[if_pos q2]at i1
    have hat:=(take_at q2).1
    have e4:=e1.trans (zag hL e1.lt (s:=bs [44]))
    generalize (zad L (bs [44]) q1).2=q4 at*
    simp[q2]
    refine Abs.Next.mk (n,l++[(s,noT)],v++[[.str s,.int .i64 0,.str (bs []),.sl true 1 [],.sl true 4 []]],q4) [0,1,4] ⟨i1,i2.trans e4,by simp only;omega,by simp;omega,by simp[i5,encV,noT,Typ.enc,Typ.encs,encS]⟩ (by simp) ?_
    simp
    exact List.take_of_length_le (by simp)
   ·rw[if_neg q2,zaF q2]at i1
    rw[zaF q2,<-i1]
    rw[Bool.not_eq_true]at q2
    have a3:=zaK hL (bs [93]) _ e1.lt hl
    have z:List.take v.length (List.map (fun x=>List.map AC.d x) v)=List.map (fun x=>List.map AC.d x) v:=List.take_of_length_le (by simp)
    have z2:List.take (v.length+1) (v++[[.str s,.int .i64 0,.str (bs []),.sl true 1 [],.sl true 4 []]])=v++[[.str s,.int .i64 0,.str (bs []),.sl true 1 [],.sl true 4 []]]:=List.take_of_length_le (by simp)
    simp[q2]
    refine fzK.mk [4] ?_
    simp[zak,z]
    refine zaa.mk [0] a3 (by simp) ?_
    simp[zak,z]
    exact EndM.mkE [0] [1] (by simp[zak,z,z2,i5,encV,noT,Typ.enc,Typ.encs,encS])
 ·rw[if_neg q0,zaF q0]
  rw[Bool.not_eq_true]at q0
  simp[q0]
  exact EndM.mkE [0] [1] (by simp)
end
end Go.Gr
namespace Go.Gr
open Go.Abs Go.Proofs
theorem letter_ok(c:Int):PCall Pg 69 [.one (.int .u8 c)] (.one (.bool (letV c))):=by
 refine zqg (by simp) fun o c' hN hp=>?_
 unfold mc_g02_letter letV
 by_cases h1:97<=c<;>by_cases h2:c<=122<;>by_cases h3:65<=c<;>by_cases h4:c<=90<;>simp[h1,h2,h3,h4]<;>(try (intros;omega))<;>(try omega)
theorem ziG(c:Int):PCall Pg 68 [.one (.int .u8 c)] (.one (.bool (digV c))):=by
 refine zrG (by simp) fun o c' hN hp=>?_
 unfold mc_g02_digit digV
 by_cases h1:48<=c<;>by_cases h2:c<=57<;>simp[h1,h2]<;>(try omega)
theorem zx2:PCall Pg 102 [] (.one (.sl false 1 (encS zj2))):=by
 refine zrF (by simp) fun o c' hN hp=>?_
 unfold mc_g02_Words
 simp[zj2,encS]
theorem znL(s:ByteArray):PCall Pg 67 [.one (.str s)] (.one (.bool (zkC s))):=by
 refine ztu (by simp) fun o c' hN hp=>?_
 unfold zk0 zkC
 have hl:zj2.length=25:=rfl
 obtain⟨l,hwl⟩:∃l,zj2=l:=⟨_,rfl⟩
 rw[hwl]at hl⊢
 obtain⟨R,hR⟩:∃R,(l.any fun w=>decide (w=s))=R:=⟨_,rfl⟩
 rw[hR]
 have hw:=zx2
 rw[hwl]at hw
 simp
 refine zac.mk hw ?_
 simp
 refine W.loop zab hp (fun j:Nat=>j<=l.length/\(l.drop j).any (fun w=>decide (w=s))=R) (fun j=>[(4,.c (.d (.int .i64 j))),(3,.c (.d (.sl false 1 (encS l)))),(0,.c (.d (.str s)))]) (fun _=>[]) (fun j=>l.length-j) 0 [] ⟨by simp,by simpa using hR⟩ (by simp) fun j ⟨h1,h2⟩=>?_
 unfold lp_g02_word_0
 simp
 refine gd.mk (fun h=>?_) (fun h=>?_)
 ·have hj:j<l.length:=by simpa using h
  rw[List.drop_eq_getElem_cons hj,List.any_cons]at h2
  simp[List.getElem?_eq_getElem hj]
  refine gd.mk (fun h=>?_) (fun h=>?_)
  ·rw[h]at h2
   simp[<-h2]
  ·rw[h]at h2
   refine Abs.Next.mk (j+1) [] ⟨by omega,h2⟩ (by omega) ?_
   simp
   exact wrap_i64 (by omega) (by omega)
 ·have hj:j=l.length:=by simp at h;omega
  subst hj
  rw[List.drop_length,List.any_nil]at h2
  simp[<-h2]
theorem zz6{a b:List UInt8}(h:bA a=bA b):a=b:=by
 have:(bA a).data.toList=(bA b).data.toList:=by rw[h]
 simpa[bA]using this
theorem znM(s:ByteArray):bA s.data.toList=s:=by
 cases s;simp[bA]
theorem ext_bA(s:ByteArray)(a b:Nat):s.extract a b=bA ((s.data.toList.drop a).take (b-a)):=by
 rw[<-znM (s.extract a b)]
 congr 1
 simp[ByteArray.data_extract,Array.toList_extract]
theorem zsS(s:ByteArray):PCall Pg 43 [.one (.str s)] (.one (.bool (za1 s))):=by
 refine ztv (by simp) fun o c' hN hp=>?_
 have hs:s.size<=zah:=by have:=o.1;simpa only[DV.ok,D.ok]using this
 unfold zah at hs
 have hlen:=zbq s
 obtain⟨R,hR⟩:∃R,za1 s=R:=⟨_,rfl⟩
 rw[hR]
 unfold za1 at hR
 unfold zk1
 by_cases h0:s.size=0
 ·have hL:s.data.toList=[]:=List.length_eq_zero_iff.1 (by omega)
  rw[hL]at hR
  simp only at hR
  subst hR
  simp
  refine zac.mk (znL s) ?_
  simp[h0]
 have hj0:0<s.data.toList.length:=by omega
 have hb0:=zcD hj0
 have hR:(decide (s.size<=32)&&(!zkC s&&(!digU s.data.toList[0]&&s.data.toList.all fun b=>letU b||digU b)))=R:=by
  rw[<-hR]
  revert hj0
  cases s.data.toList with
  |nil=>intro h;simp at h
  |cons c l=>intro h _;rfl
 simp
 refine zac.mk (znL s) ?_
 have h0':¬(s.size:Int)=0:=by omega
 by_cases h32:s.size<=32
 rotate_left
 ·have h32':(32:Int)<s.size:=by omega
  simp[h32]at hR
  simp[h0,h0',h32',hR]
 have h32':¬(32:Int)<s.size:=by omega
 simp only[h32,decide_true,Bool.true_and]at hR
 generalize zkC s=wv at*
 cases wv with
 |true=>
  simp at hR
  simp[h0,h0',h32',hR]
 | false=>
  simp only[Bool.not_false,Bool.true_and]at hR
  generalize s.data.toList[0]=b0 at*
  have hd:digU b0=digV b0.toNat:=rfl
  simp[h0,h0',h32',hb0]
  refine zac.mk (ziG b0.toNat) ?_
  rw[<-hd]
  generalize digU b0=d0 at*
  cases d0 with
  |true=>
   simp at hR
   simp[hR]
  | false=>
   simp only[Bool.not_false,Bool.true_and]at hR
   simp
   refine W.loop zab hp (fun j:Nat=>j<=s.size/\((s.data.toList.drop j).all fun b=>letU b||digU b)=R) (fun j=>[(4,.c (.d (.int .i64 j))),(0,.c (.d (.str s)))]) (fun _=>[]) (fun j=>s.size-j) 0 [] ⟨by simp,by simpa using hR⟩ (by simp) fun j ⟨h1,h2⟩=>?_
   unfold lp_g02_Name_0
   simp
   refine gd.mk (fun h=>?_) (fun h=>?_)
   ·have hj:j<s.size:=by simpa using h
    have hj':j<s.data.toList.length:=by omega
    rw[List.drop_eq_getElem_cons hj',List.all_cons]at h2
    have hb:=zcD hj'
    generalize s.data.toList[j]=b at h2 hb
    have hd:digU b=digV b.toNat:=rfl
    have hle:letU b=letV b.toNat:=rfl
    simp[hb]
    refine zac.mk (letter_ok b.toNat) ?_
    rw[<-hle]
    simp[hb]
    refine zac.mk (ziG b.toNat) ?_
    rw[<-hd]
    generalize letU b=x1 at*
    generalize digU b=x2 at*
    cases x1<;>cases x2
    ·simp at h2
     simp[h2]
    all_goals
     simp only[Bool.or_true,Bool.true_or,Bool.true_and,Bool.or_self]at h2
     simp
     refine Abs.Next.mk (j+1) [] ⟨by omega,h2⟩ (by omega) ?_
     simp
     exact wrap_i64 (by omega) (by omega)
   ·have hj:j=s.size:=by simp at h;omega
    subst hj
    rw[List.drop_of_length_le (by omega),List.all_nil]at h2
    simp[<-h2]
def twoB:List ByteArray:=[bs [45,62],bs [61,62],bs [60,58],bs [60,60],bs [60,61],bs [62,62],bs [61,61],bs [43,43]]
def oneB:ByteArray:=bs [40,41,123,125,91,93,44,58,59,61,43,45,42,47,37,38,94,60,124,46]
theorem zzh:twoB=twoL.map bA:=by decide
theorem znN:oneB.data.toList=oneL:=by decide
theorem zzi(s:ByteArray):(twoL.any fun t=>decide (s.data.toList.take 2=t))=(twoB.any fun t=>decide (s.extract 0 2=t)):=by
 rw[zzh,List.any_map]
 congr 1
 funext t
 simp only[Function.comp]
 rw[ext_bA]
 simp only[List.drop_zero,Nat.sub_zero]
 by_cases h:s.data.toList.take 2=t
 ·simp[h]
 ·have:¬bA (s.data.toList.take 2)=bA t:=fun e=>h (zz6 e)
  simp[h,this]
theorem zv9{s:ByteArray}(h:s.size<2):(twoL.any fun t=>decide (s.data.toList.take 2=t))=false:=by
 have hlen:=zbq s
 rw[List.any_eq_false]
 intro t ht
 have h2:t.length=2:=by
  revert t;decide
 simp only[decide_eq_true_eq]
 intro e
 have:=congrArg List.length e
 rw[List.length_take]at this
 omega
set_option maxRecDepth 20000 in
theorem zzj(s:ByteArray)(hpos:0<s.size):PCall Pg 157 [.one (.str s)] (.one (.int .i64 (zeX s.data.toList))):=by
 refine ztw (by simp) fun o c' hN hp=>?_
 have hs:s.size<=zah:=by have:=o.1;simpa only[DV.ok,D.ok]using this
 unfold zah at hs
 have hlen:=zbq s
 obtain⟨R,hR⟩:∃R,zeX s.data.toList=R:=⟨_,rfl⟩
 rw[hR]
 have hj0:0<s.data.toList.length:=by omega
 have hb0:=zcD hj0
 have hR:(if(twoL.any fun t=>decide (s.data.toList.take 2=t))=true then 2 else if s.data.toList[0]∈oneL then 1 else 0)=R:=by
  rw[<-hR]
  revert hj0
  unfold zeX
  cases s.data.toList with
  |nil=>intro h;simp at h
  |cons c l=>intro h _;rfl
 generalize s.data.toList[0]=b0 at*
 have k2:∀{Q:Exit->St->Prop} {S:St} {g} {ms:List Nat} (h0:Match ms S [(6,.c (.d (.int .i64 0))),(5,.c (.d (.str oneB))),(0,.c (.d (.str s)))] []),
   (b0∈oneL->∀T M n,Abs.look T 2=.c (.d (.int .i64 1))->Q .ret ⟨T,M,n⟩)->(b0∉oneL->∀T M n,Q (.exit 2) ⟨T,M,n⟩)->lw_ Pg c' zfq Q g S:=by
  intro Q S g ms h0 hy hn
  refine W.loop zab hp (fun j:Nat=>j<=oneL.length/\(b0∈oneL.drop j↔b0∈oneL)) (fun j=>[(6,.c (.d (.int .i64 j))),(5,.c (.d (.str oneB))),(0,.c (.d (.str s)))]) (fun _=>[]) (fun j=>oneL.length-j) 0 ms ⟨by simp,by simp⟩ h0 fun j ⟨h1,h2⟩=>?_
  have hsz:oneB.size=oneL.length:=by rw[<-zbq,znN]
  unfold zfq
  simp[hsz]
  refine gd.mk (fun h=>?_) (fun h=>?_)
  ·have hj:j<oneL.length:=by simpa using h
   have hb:oneB.data[j]?=some oneL[j]:=by
    have:=zcD (s:=oneB) (j:=j) (by rw[znN];exact hj)
    rw[this];simp only[znN]
   rw[List.drop_eq_getElem_cons hj,List.mem_cons]at h2
   generalize oneL[j]=b at*
   simp[hb0,hb]
   refine⟨by decide,?_⟩
   by_cases e:b0=b
   ·subst e
    simp
    exact hy (h2.1 (.inl rfl)) _ _ _ (by simp)
   ·have e':¬(b0.toNat:Int)=b.toNat:=fun q=>e (UInt8.toNat_inj.mp (by omega))
    have e'':¬b0.toNat=b.toNat:=fun q=>e (UInt8.toNat_inj.mp (by omega))
    simp[e',e'',e]
    refine Abs.Next.mk (j+1) [] ⟨by omega,⟨fun z=>h2.1 (.inr z),fun z=>(h2.2 z).resolve_left e⟩⟩ (by omega) ?_
    simp
    exact wrap_i64 (by have:oneL.length=20:=rfl;omega) (by have:oneL.length=20:=rfl;omega)
  ·have hj:j=oneL.length:=by simp at h;omega
   subst hj
   rw[List.drop_length]at h2
   exact hn (fun z=>by simpa using h2.2 z) _ _ _
 unfold zk2
 simp
 by_cases h2s:s.size<2
 ·have hz:=zv9 h2s
  rw[hz]at hR
  simp only[Bool.false_eq_true,if_false]at hR
  have h2':¬(2:Int)<=s.size:=by omega
  refine W.loop zab hp (fun j:Nat=>j<=twoB.length) (fun j=>[(4,.c (.d (.int .i64 j))),(3,.c (.d (.sl true 1 (encS twoB)))),(0,.c (.d (.str s)))]) (fun _=>[]) (fun j=>twoB.length-j) 0 [] (by simp) (by simp[encS,twoB]) fun j h1=>?_
  unfold lp_g02_sign_0
  simp
  refine gd.mk (fun h=>?_) (fun h=>?_)
  ·have hj:j<twoB.length:=by simpa using h
   simp[h2']
   refine⟨by decide,?_⟩
   refine Abs.Next.mk (j+1) [] (by omega) (by omega) ?_
   simp
   exact wrap_i64 (by have:twoB.length=8:=rfl;omega) (by have:twoB.length=8:=rfl;omega)
  ·skip
   refine k2 (ms:=[]) (by simp[oneB]) (fun hm T M n ht=>?_) (fun hm T M n=>?_)
   ·rw[if_pos hm]at hR
    subst hR
    simp[ht]
   ·rw[if_neg hm]at hR
    subst hR
    simp
 ·rw[zzi]at hR
  have h2':(2:Int)<=s.size:=by omega
  have h2'':2<=s.size:=by omega
  refine W.loop zab hp (fun j:Nat=>j<=twoB.length/\(twoB.drop j).any (fun t=>decide (s.extract 0 2=t))=twoB.any (fun t=>decide (s.extract 0 2=t))) (fun j=>[(4,.c (.d (.int .i64 j))),(3,.c (.d (.sl true 1 (encS twoB)))),(0,.c (.d (.str s)))]) (fun _=>[]) (fun j=>twoB.length-j) 0 [] ⟨by simp,by simp⟩ (by simp[encS,twoB]) fun j ⟨h1,h3⟩=>?_
  unfold lp_g02_sign_0
  simp
  refine gd.mk (fun h=>?_) (fun h=>?_)
  ·have hj:j<twoB.length:=by simpa using h
   rw[List.drop_eq_getElem_cons hj,List.any_cons]at h3
   simp[h2',h2'',List.getElem?_eq_getElem hj]
   generalize twoB[j]=u at*
   by_cases e:s.extract 0 2=u
   ·rw[<-h3]at hR
    simp[e]at hR
    subst hR
    simp[e]
    decide
   ·simp[e]at h3⊢
    refine⟨by decide,?_⟩
    refine Abs.Next.mk (j+1) [] ⟨by omega,by simpa using h3⟩ (by omega) ?_
    simp
    exact wrap_i64 (by have:twoB.length=8:=rfl;omega) (by have:twoB.length=8:=rfl;omega)
  ·have hj:j=twoB.length:=by simp at h;omega
   subst hj
   rw[List.drop_length,List.any_nil]at h3
   rw[<-h3]at hR
   simp only[Bool.false_eq_true,if_false]at hR
   simp
   refine k2 (ms:=[]) (by simp[oneB]) (fun hm T M n ht=>?_) (fun hm T M n=>?_)
   ·rw[if_pos hm]at hR
    subst hR
    simp[ht]
   ·rw[if_neg hm]at hR
    subst hR
    simp
end Go.Gr
namespace Go.Gr
open Go.Abs Go.Proofs
theorem ub(b c:UInt8):b=c↔(b.toNat:Int)=c.toNat:=⟨fun h=>by rw[h],fun h=>UInt8.toNat_inj.mp (by omega)⟩
theorem ubn(b c:UInt8):b=c↔b.toNat=c.toNat:=⟨fun h=>by rw[h],fun h=>UInt8.toNat_inj.mp h⟩
theorem un{b c:UInt8}(h:¬b=c):¬(b.toNat:Int)=c.toNat/\¬b.toNat=c.toNat:=⟨fun e=>h ((ub b c).2 e),fun e=>h ((ubn b c).2 e)⟩
set_option maxRecDepth 20000 in
theorem zwO(s:ByteArray):PCall Pg 137 [.one (.str s)] (.one (.int .i64 (blkL false s.data.toList))):=by
 refine zrH (by simp) fun o c' hN hp=>?_
 have hs:s.size<=zah:=by have:=o.1;simpa only[DV.ok,D.ok]using this
 unfold zah at hs
 have hlen:=zbq s
 obtain⟨R,hR⟩:∃R,blkL false s.data.toList=R:=⟨_,rfl⟩
 rw[hR]
 have k2:∀{Q:Exit->St->Prop} {S:St} {g} {ms:List Nat} (k:Nat) (hk:k<s.size) (hne:s.data[k]?≠some 10) (hq:k+blkL true (s.data.toList.drop k)=R) (h0:Match ms S [(3,.c (.d (.int .i64 k))),(0,.c (.d (.str s)))] []),
   (∀j T M n,j<=s.size->k<j->j+blkL false (s.data.toList.drop j)=R->Abs.look T 3=.c (.d (.int .i64 j))->Abs.look T 0=.c (.d (.str s))->Q (.exit 2) ⟨T,M,n⟩)->lw_ Pg c' lp_g02_blank_2 Q g S:=by
  intro Q S g ms k hk hne hq h0 hn
  refine W.loop zab hp (fun j:Nat=>j<=s.size/\k<=j/\j+blkL true (s.data.toList.drop j)=R) (fun j=>[(3,.c (.d (.int .i64 j))),(0,.c (.d (.str s)))]) (fun _=>[]) (fun j=>s.size-j) k ms ⟨by omega,Nat.le_refl _,hq⟩ h0 fun j ⟨h1,h2,h3⟩=>?_
  unfold lp_g02_blank_2
  simp
  refine gd.mk (fun h=>?_) (fun h=>?_)
  ·have hj:j<s.size:=by simpa using h
   have hj':j<s.data.toList.length:=by omega
   rw[List.drop_eq_getElem_cons hj',blkL]at h3
   have hd:=List.drop_eq_getElem_cons hj'
   have hb:=zcD hj'
   generalize s.data.toList[j]=b at h3 hb hd
   by_cases e:b=10
   ·subst e
    simp[hb]
    refine hn j _ _ _ h1 ?_ ?_ (by simp) (by simp)
    ·rcases Nat.lt_or_ge k j with h|h
     ·exact h
     ·have:j=k:=by omega
      subst this
      exact absurd hb hne
    rw[hd,blkL]
    simpa using h3
   ·have e':=un e
    simp at e'
    simp[hb,e',e]
    simp[e]at h3
    refine Abs.Next.mk (j+1) [] ⟨by omega,by omega,by omega⟩ (by omega) ?_
    simp
    exact wrap_i64 (by omega) (by omega)
  ·have hj:j=s.size:=by simp at h;omega
   subst hj
   rw[List.drop_of_length_le (by omega),blkL]at h3
   refine hn s.size _ _ _ (by omega) (by omega) ?_ (by simp) (by simp)
   rw[List.drop_of_length_le (by omega),blkL];exact h3
 unfold zjA
 simp
 refine W.loop zab hp (fun j:Nat=>j<=s.size/\j+blkL false (s.data.toList.drop j)=R) (fun j=>[(3,.c (.d (.int .i64 j))),(0,.c (.d (.str s)))]) (fun _=>[]) (fun j=>s.size-j) 0 [] ⟨by simp,by simpa using hR⟩ (by simp) fun j ⟨h1,h3⟩=>?_
 unfold zhB
 simp
 refine gd.mk (fun h=>?_) (fun h=>?_)
 ·have hj:j<s.size:=by simpa using h
  have hj':j<s.data.toList.length:=by omega
  rw[List.drop_eq_getElem_cons hj',blkL]at h3
  have hd:=List.drop_eq_getElem_cons hj'
  have hb:=zcD hj'
  generalize s.data.toList[j]=b at h3 hb hd
  by_cases e:b=35
  ·subst e
   simp[hb]
   simp only[if_true]at h3
   refine k2 j (by omega) (by rw[hb];decide) ?_ (ms:=[]) (by simp) fun k T M n g1 g2 g3 t1 t2=>?_
   ·rw[hd,blkL];simpa using h3
   ·simp
    exact Abs.Next.mk k [] ⟨g1,g3⟩ (by omega) (by simp[t1,t2])
  ·have e':=un e
   simp at e'
   rw[if_neg e]at h3
   by_cases w:b=32\/b=9\/b=10\/b=13
   ·rw[if_pos w]at h3
    have z:∀G:Prop,(b=32->G)->(b=9->G)->(b=10->G)->(b=13->G)->G:=fun G a1 a2 a3 a4=>by
     rcases w with w|w|w|w
     ·exact a1 w
     ·exact a2 w
     ·exact a3 w
     ·exact a4 w
    refine z _ ?_ ?_ ?_ ?_
    all_goals
     intro w
     subst w
     simp[hb]
     refine Abs.Next.mk (j+1) [] ⟨by omega,by omega⟩ (by omega) ?_
     simp
     exact wrap_i64 (by omega) (by omega)
   ·rw[if_neg w]at h3
    have w1:=un (fun h=>w (.inl h))
    have w2:=un (fun h=>w (.inr (.inl h)))
    have w3:=un (fun h=>w (.inr (.inr (.inl h))))
    have w4:=un (fun h=>w (.inr (.inr (.inr h))))
    simp at w1 w2 w3 w4
    simp[hb,e',e,w1,w2,w3,w4]
    omega
 ·have hj:j=s.size:=by simp at h;omega
  subst hj
  rw[List.drop_of_length_le (by omega),blkL]at h3
  simp[<-h3]
def quoE:List UInt8->Option (List UInt8 × Nat)
 |[]=>none
 |d::l=>if d=92\/d=34 then(quoL l).map fun x=>(d::x.1,x.2+2)else if d=110 then(quoL l).map fun x=>(10::x.1,x.2+2)else if d=116 then(quoL l).map fun x=>(9::x.1,x.2+2)else none
theorem zob(c:UInt8)(l:List UInt8):quoL (c::l)=if c=34 then some ([],1)else if c<32 then none else if c≠92 then(quoL l).map (fun x=>(c::x.1,x.2+1))else quoE l:=by
 cases l<;>rw[quoL.eq_def]<;>rfl
def quoR(out:List UInt8)(i:Nat)(l:List UInt8):List UInt8 × Int:=match quoL l with
 |none=>([],0)
 |some (t,n)=>(out++t,i+n)
theorem zgM(out:List UInt8)(c:UInt8)(i n:Nat)(l:List UInt8):(match(quoL l).map (fun x=>(c::x.1,x.2+n))with
  |none=>(([],0):List UInt8 × Int)
  |some (t,m)=>(out++t,(i:Int)+m))=quoR (out++[c]) (i+n) l:=by
 unfold quoR
 cases quoL l with
 |none=>rfl
 |some x=>
  simp
  omega
theorem zjl(a b:List UInt8):bA (a++b)=bA a++bA b:=by
 have:(bA (a++b)).data.toList=(bA a++bA b).data.toList:=by simp[bA]
 rw[<-znM (bA (a++b)),this,znM]
theorem zsk{s:ByteArray}{j:Nat}(h:j<s.data.toList.length):s.extract j (j+1)=bA [s.data.toList[j]]:=by
 rw[ext_bA]
 congr 1
 rw[List.drop_eq_getElem_cons h,show j+1-j=1 by omega];try rfl
set_option maxRecDepth 20000 in
theorem zuV(s:ByteArray)(hpos:0<s.size):PCall Pg 156 [.one (.str s)] (.tup [.one (.str (bA (quoR [] 1 (s.data.toList.drop 1)).1)),.one (.int .i64 (quoR [] 1 (s.data.toList.drop 1)).2)]):=by
 refine zqh (by simp) fun o c' hN hp=>?_
 have hs:s.size<=zah:=by have:=o.1;simpa only[DV.ok,D.ok]using this
 unfold zah at hs
 have hlen:=zbq s
 obtain⟨R,hR⟩:∃R,quoR [] 1 (s.data.toList.drop 1)=R:=⟨_,rfl⟩
 rw[hR]
 unfold zi5
 simp
 refine W.loop zab hp (fun x:Nat × List UInt8=>x.1<=s.size/\x.2.length<=x.1/\quoR x.2 x.1 (s.data.toList.drop x.1)=R) (fun x=>[(5,.c (.d (.int .i64 x.1))),(4,.c (.d (.str (bA x.2)))),(0,.c (.d (.str s)))]) (fun _=>[]) (fun x=>s.size-x.1) (1,[]) [] ⟨by simp only;omega,by simp,hR⟩ (by simp[bA,bs]) fun⟨j,out⟩ ⟨h1,h2,h3⟩=>?_
 unfold lp_g02_quoted_0
 simp only at h1 h2 h3
 simp
 refine gd.mk (fun h=>?_) (fun h=>?_)
 ·have hj:j<s.size:=by simpa using h
  have hj':j<s.data.toList.length:=by omega
  unfold quoR at h3
  rw[List.drop_eq_getElem_cons hj',zob]at h3
  have hx:=zsk hj'
  have hb:=zcD hj'
  generalize s.data.toList[j]=b at h3 hb hx
  by_cases e1:b=34
  ·subst e1
   simp at h3
   subst h3
   simp[hb]
   exact wrap_i64 (by omega) (by omega)
  rw[if_neg e1]at h3
  have e1':=un e1
  simp at e1'
  by_cases e2:b<32
  ·rw[if_pos e2]at h3
   simp only at h3
   subst h3
   have e2':(b.toNat:Int)<32:=by
    have:b.toNat<32:=e2
    omega
   simp[hb,e1,e1',e2']
   rfl
  rw[if_neg e2]at h3
  have e2':¬(b.toNat:Int)<32:=by
   intro q
   exact e2 (show b.toNat<32 by omega)
  by_cases e3:b=92
  rotate_left
  ·rw[if_pos e3]at h3
   have e3':=un e3
   simp at e3'
   have hw:=wrap_i64 (n:=(j:Int)+1) (by omega) (by omega)
   simp[hb,e1,e1',e2',e3,e3',hw]
   have hsz:(bA out).size+(min (j+1) s.size-j)<=zah:=by
    have:(bA out).size=out.length:=by rw[<-zbq];simp[bA]
    unfold zah;omega
   refine⟨by omega,by omega,hsz,?_⟩
   rw[zgM out b j 1]at h3
   refine Abs.Next.mk (j+1,out++[b]) [] ⟨by simp only;omega,by simp;omega,h3⟩ (by simp only;omega) ?_
   rw[hx]
   simp[zjl]
  ·simp only[ne_eq,e3,not_true,if_false]at h3
   subst e3
   have hw:=wrap_i64 (n:=(j:Int)+1) (by omega) (by omega)
   have hw2:=wrap_i64 (n:=(j:Int)+1+1) (by omega) (by omega)
   simp[hb,hw]
   by_cases hj2:j+1<s.size
   rotate_left
   ·have hj2':(s.size:Int)<=(j:Int)+1:=by omega
    rw[List.drop_of_length_le (by omega),quoE]at h3
    simp only at h3
    subst h3
    simp[hj2']
    rfl
   have hj2':¬(s.size:Int)<=(j:Int)+1:=by omega
   have hjl:j+1<s.data.toList.length:=by omega
   rw[List.drop_eq_getElem_cons hjl,quoE]at h3
   have hx2:=zsk hjl
   have hb2:=zcD hjl
   generalize s.data.toList[j+1]=d at h3 hb2 hx2
   have hsz:(bA out).size=out.length:=by rw[<-zbq];simp[bA]
   have hnat:((j:Int)+1).toNat=j+1:=by omega
   have hw2:IntKind.i64.wrap ((j:Int)+1+1)=((j+2:Nat):Int):=by rw[hw2];omega
   have hmin:min (j+2) s.size-(j+1)<=1:=by omega
   have hcat:(bA out).size+1<=zah:=by rw[hsz];unfold zah;omega
   by_cases d1:d=92\/d=34
   ·rw[if_pos d1]at h3
    rw[zgM out d j 2]at h3
    have hnat2:((j:Int)+2).toNat=j+1+1:=by omega
    rcases d1 with q|q
    ·have q1:=(ubn d 92).1 q
     simp at q1
     simp[hj2',hb2,hnat,hw2,q1]
     refine⟨by omega,by omega,by omega,by omega,by omega,by rw[hnat2];omega,?_⟩
     refine Abs.Next.mk (j+2,out++[d]) [] ⟨by simp only;omega,by simp;omega,h3⟩ (by simp only;omega) ?_
     rw[hnat2,hx2]
     simp[zjl]
    ·have q1:=(ubn d 34).1 q
     simp at q1
     simp[hj2',hb2,hnat,hw2,q1]
     refine⟨by omega,by omega,by omega,by omega,by omega,by rw[hnat2];omega,?_⟩
     refine Abs.Next.mk (j+2,out++[d]) [] ⟨by simp only;omega,by simp;omega,h3⟩ (by simp only;omega) ?_
     rw[hnat2,hx2]
     simp[zjl]
   rw[if_neg d1]at h3
   have d11:=un (fun h=>d1 (.inl h))
   have d12:=un (fun h=>d1 (.inr h))
   simp at d11 d12
   by_cases d2:d=110
   ·rw[if_pos d2]at h3
    subst d2
    rw[zgM out 10 j 2]at h3
    simp[hj2',hb2,hnat,hw2]
    refine⟨by omega,hcat,?_⟩
    refine Abs.Next.mk (j+2,out++[10]) [] ⟨by simp only;omega,by simp;omega,h3⟩ (by simp only;omega) ?_
    simp[zjl]
    rfl
   rw[if_neg d2]at h3
   have d21:=un d2
   simp at d21
   by_cases d3:d=116
   ·rw[if_pos d3]at h3
    subst d3
    rw[zgM out 9 j 2]at h3
    simp[hj2',hb2,hnat,hw2]
    refine⟨by omega,hcat,?_⟩
    refine Abs.Next.mk (j+2,out++[9]) [] ⟨by simp only;omega,by simp;omega,h3⟩ (by simp only;omega) ?_
    simp[zjl]
    rfl
   rw[if_neg d3]at h3
   have d31:=un d3
   simp at d31
   simp only at h3
   subst h3
   simp[hj2',hb2,hnat,d11,d12,d21,d31]
   exact⟨by omega,rfl⟩
 ·have hj:j=s.size:=by simp at h;omega
  subst hj
  unfold quoR at h3
  rw[List.drop_of_length_le (by omega),quoL]at h3
  simp only at h3
  subst h3
  simp
  rfl
end Go.Gr
namespace Go.Gr
open Go.Abs Go.Proofs
theorem zhK(num:Bool):∀l:List UInt8,runL num l<=l.length
 |[]=>Nat.le_refl _
 |b::l=>by have:=zhK num l;unfold runL;split<;>simp<;>omega
theorem zku:∀(r:Bool) (l:List UInt8),blkL r l<=l.length
 |_,[]=>by cases‹Bool›<;>simp[blkL]
 |true,c::l=>by have:=zku (decide (c≠10)) l;rw[blkL,List.length_cons];omega
 |false,c::l=>by
  have h1:=zku true l
  have h2:=zku false l
  rw[blkL];split
  ·simp;omega
  ·split<;>simp<;>omega
theorem zkv:∀(n:Nat) (l:List UInt8),l.length<=n->∀t k,quoL l=some (t,k)->0<k/\k<=l.length
 |n,[],_,t,k,e=>by simp[quoL]at e
 |0,c::l,h,_,_,_=>by simp at h
 | n +1,c::l,h,t,k,e=>by
  rw[zob]at e
  split at e
  ·simp at e;obtain⟨_,rfl⟩:=e;simp
  split at e
  ·cases e
  split at e
  ·rw[Option.map_eq_some_iff]at e
   obtain⟨⟨t',k'⟩,e1,e2⟩:=e
   simp only[Prod.mk.injEq]at e2
   have:=zkv n l (by simpa using h) t' k' e1
   simp;omega
  ·cases l with
   |nil=>simp[quoE]at e
   | cons d l=>
    have H:∀t' k',quoL l=some (t',k')->0<k'/\k'<=l.length:=fun t' k' e1=>zkv n l (by simp at h;omega) t' k' e1
    rw[quoE]at e
    repeat' split at e
    all_goals first|(cases e;done)|skip
    all_goals
     rw[Option.map_eq_some_iff]at e
     obtain⟨⟨t',k'⟩,e1,e2⟩:=e
     simp only[Prod.mk.injEq]at e2
     have:=H t' k' e1
     simp;omega
theorem zqP(l:List UInt8):zeX l<=l.length:=by
 unfold zeX
 split
 ·rename_i h
  rw[List.any_eq_true]at h
  obtain⟨t,ht,h⟩:=h
  have h2:t.length=2:=(by decide:∀t∈twoL,t.length=2) t ht
  simp only[decide_eq_true_eq]at h
  have:=congrArg List.length h
  rw[List.length_take]at this
  omega
 ·cases l with
  |nil=>simp
  |cons c l=>simp;split<;>omega
def TokR.enc(t:TokR):List D:=[.int .i64 t.kind,.str (bA t.text),.int .i64 0,.int .i64 0]
abbrev runT(s:ByteArray)(a b:Bool)(j:Nat):List (Nat × AV):=[(7,.c (.d (.int .i64 j))),(6,.c (.d (.bool b))),(5,.c (.d (.bool a))),(2,.c (.ptr 0 0)),(0,.c (.d (.str s)))]
abbrev tkB:Blk:=.box [.d (.int .i64 0),.d (.str (bs [])),.d (.int .i64 0),.d (.int .i64 0)]
set_option maxRecDepth 20000 in
theorem zvF{c:Ctx}(hp:c.pure)(s:ByteArray)(hs:s.size<=4611686018427387904)(a num:Bool)(R:Nat)(hR:runL num s.data.toList=R){Q:Exit->St->Prop}{S:St}{g}{ms:List Nat}
  (h0:Match ms S (runT s a num 0) [tkB])
  (hQ:∀T M n,Abs.look T 7=.c (.d (.int .i64 R))->Abs.look T 6=.c (.d (.bool num))->Abs.look T 5=.c (.d (.bool a))->Abs.look T 2=.c (.ptr 0 0)->Abs.look T 0=.c (.d (.str s))->M 0=tkB->Q (.exit 0) ⟨T,M,n⟩):lw_ Pg c lp_g02_token_0 Q g S:=by
 have hlen:=zbq s
 refine W.loop zab hp (fun j:Nat=>j<=s.size/\j+runL num (s.data.toList.drop j)=R) (fun j=>runT s a num j) (fun _=>[tkB]) (fun j=>s.size-j) 0 ms ⟨by simp,by simpa using hR⟩ h0 fun j ⟨h1,h2⟩=>?_
 unfold lp_g02_token_0
 simp
 refine gd.mk (fun h=>?_) (fun h=>?_)
 ·have hj:j<s.size:=by simpa using h
  have hj':j<s.data.toList.length:=by omega
  rw[List.drop_eq_getElem_cons hj',runL]at h2
  have hb:=zcD hj'
  generalize s.data.toList[j]=b at h2 hb
  have hd:digU b=digV b.toNat:=rfl
  have hle:letU b=letV b.toNat:=rfl
  simp[hb]
  refine zac.mk (letter_ok b.toNat) ?_
  rw[<-hle]
  simp[hb]
  refine zac.mk (ziG b.toNat) ?_
  rw[<-hd]
  generalize letU b=x1 at*
  generalize digU b=x2 at*
  cases x1<;>cases x2<;>cases num
  all_goals
   simp at h2
   simp
  ·exact hQ _ _ _ (by simp;omega) (by simp) (by simp) (by simp) (by simp) (by simp)
  ·exact hQ _ _ _ (by simp;omega) (by simp) (by simp) (by simp) (by simp) (by simp)
  ·refine Abs.Next.mk (j+1) [0] ⟨by omega,by omega⟩ (by omega) ?_
   simp
   exact wrap_i64 (by omega) (by omega)
  ·refine Abs.Next.mk (j+1) [0] ⟨by omega,by omega⟩ (by omega) ?_
   simp
   exact wrap_i64 (by omega) (by omega)
  ·refine Abs.Next.mk (j+1) [0] ⟨by omega,by omega⟩ (by omega) ?_
   simp
   exact wrap_i64 (by omega) (by omega)
  ·exact hQ _ _ _ (by simp;omega) (by simp) (by simp) (by simp) (by simp) (by simp)
  ·refine Abs.Next.mk (j+1) [0] ⟨by omega,by omega⟩ (by omega) ?_
   simp
   exact wrap_i64 (by omega) (by omega)
  ·refine Abs.Next.mk (j+1) [0] ⟨by omega,by omega⟩ (by omega) ?_
   simp
   exact wrap_i64 (by omega) (by omega)
 ·have hj:j=s.size:=by simp at h;omega
  subst hj
  rw[List.drop_of_length_le (by omega),runL]at h2
  exact hQ _ _ _ (by simp;omega) (by simp) (by simp) (by simp) (by simp) (by simp)
theorem ext0(s:ByteArray)(i:Nat):s.extract 0 i=bA (s.data.toList.take i):=by rw[ext_bA];try rfl
abbrev tokV(t:TokR):DV:=.tup [.agg t.enc,.one (.int .i64 t.len),.one (.int .i64 t.e)]
set_option maxRecDepth 20000 in
theorem zxG(s:ByteArray)(hpos:0<s.size):PCall Pg 138 [.one (.str s)] (tokV (tokL s.data.toList)):=by
 refine zrI (by simp) fun o c' hN hp=>?_
 have hs:s.size<=zah:=by have:=o.1;simpa only[DV.ok,D.ok]using this
 unfold zah at hs
 have hlen:=zbq s
 have hj0:0<s.data.toList.length:=by omega
 have hb0:=zcD hj0
 have cq:=zuV s hpos
 have csg:=zzj s hpos
 have hql:=zkv (s.data.toList.drop 1).length (s.data.toList.drop 1) (Nat.le_refl _)
 obtain⟨R,hR⟩:∃R,tokL s.data.toList=R:=⟨_,rfl⟩
 rw[hR]
 have hrl:=zhK false s.data.toList
 have hrd:=zhK true s.data.toList
 have hsl:=zqP s.data.toList
 have hx:∀i,s.extract 0 i=bA (s.data.toList.take i):=ext0 s
 generalize hl:s.data.toList=l at*
 cases l with
 |nil=>simp at hj0
 |cons c r=>
 simp only[List.getElem_cons_zero]at hb0
 simp only[List.drop_one,List.tail_cons]at cq hql
 rw[tokL]at hR
 have hd:digU c=digV c.toNat:=rfl
 have hle:letU c=letV c.toNat:=rfl
 unfold zjB
 simp[hb0]
 refine zac.mk (letter_ok c.toNat) ?_
 rw[<-hle]
 simp[hb0]
 refine zac.mk (ziG c.toNat) ?_
 rw[<-hd]
 by_cases q1:letU c=true
 ·rw[if_pos q1]at hR
  have q2:digU c=false:=by
   unfold letU letV at q1;unfold digU digV
   simp at q1⊢;omega
  simp[q1,q2]
  refine zvF hp s hs true false (runL false (c::r)) (by rw[hl]) (ms:=[0]) (by simp) fun T M n t7 t6 t5 t2 t0 m0=>?_
  simp[t5,t7]
  by_cases q3:32<runL false (c::r)
  ·have q3':(32:Int)<(runL false (c::r):Nat):=by omega
   rw[if_pos q3]at hR
   subst hR
   simp[q3,q3',t2,m0]
   exact⟨rfl,rfl,rfl⟩
  rw[if_neg q3]at hR
  have q3':¬(32:Int)<(runL false (c::r):Nat):=by omega
  have hxi:=hx (runL false (c::r))
  have hw:=znL (bA (List.take (runL false (c::r)) (c::r)))
  generalize runL false (c::r)=i at*
  have hi2:i<=s.size:=by simp at hlen hrl;omega
  simp[q3,q3',t0,t7,hi2,hxi]
  refine zac.mk hw ?_
  generalize hu:bA (List.take i (c::r))=u at*
  by_cases q4:zkC u=true
  ·rw[if_pos q4]at hR
   subst hR
   simp[q4,t0,t7,hi2,hxi,t2,m0,TokR.enc,hu]
  ·rw[if_neg q4]at hR
   subst hR
   simp[q4,t0,t7,hi2,hxi,t2,m0,TokR.enc,hu]
 rw[if_neg q1]at hR
 by_cases q2:digU c=true
 ·rw[if_pos q2]at hR
  rw[Bool.not_eq_true]at q1
  simp[q1,q2]
  refine zvF hp s hs false true (runL true (c::r)) (by rw[hl]) (ms:=[0]) (by simp) fun T M n t7 t6 t5 t2 t0 m0=>?_
  have hxi:=hx (runL true (c::r))
  have hpz:=zqQ (bA (List.take (runL true (c::r)) (c::r)))
  have hpi:zcA (bA (List.take (runL true (c::r)) (c::r)))=ze9 (List.take (runL true (c::r)) (c::r)):=by unfold zcA;rfl
  rw[hpi]at hpz
  generalize runL true (c::r)=i at*
  have hi2:i<=s.size:=by simp at hlen hrd;omega
  simp[t5,t6,t7,t0,hi2,hxi]
  refine zac.mk hpz ?_
  generalize hu:bA (List.take i (c::r))=u at*
  generalize ze9 (List.take i (c::r))=pz at*
  by_cases q4:pz.2=true
  ·rw[if_pos q4]at hR
   subst hR
   simp[q4,t0,t7,hi2,hxi,t2,m0,TokR.enc,hu]
  ·rw[if_neg q4]at hR
   subst hR
   simp[q4,t0,t7,hi2,hxi,t2,m0,TokR.enc,hu]
   exact⟨⟨rfl,rfl⟩,rfl,rfl⟩
 rw[if_neg q2]at hR
 rw[Bool.not_eq_true]at q1 q2
 simp[q1,q2]
 by_cases q3:c=34
 ·subst q3
  rw[if_pos rfl]at hR
  simp[hb0]
  refine zac.mk cq ?_
  unfold quoR
  cases hq:quoL r with
  |none=>
   rw[hq]at hR
   simp only at hR
   subst hR
   simp
   exact⟨rfl,rfl,rfl⟩
  | some x=>
   obtain⟨t,k⟩:=x
   rw[hq]at hR
   have hk:=hql t k hq
   have hsz:(bA t).size=t.length:=by rw[<-zbq];simp[bA]
   have hk0:¬(1:Int)+k=0:=by omega
   by_cases q4:256<t.length
   ·have q4':(256:Int)<t.length:=by omega
    simp only[q4,if_true]at hR
    subst hR
    simp[hsz,q4,q4',hk0]
    exact⟨rfl,rfl,rfl⟩
   ·have q4':¬(256:Int)<t.length:=by omega
    simp only[q4,if_false]at hR
    subst hR
    simp[hsz,q4,q4',hk0,TokR.enc]
    omega
 rw[if_neg q3]at hR
 have q3':=un q3
 simp at q3'
 simp[hb0,q3,q3']
 refine zac.mk csg ?_
 have hxi:=hx (zeX (c::r))
 generalize zeX (c::r)=i at*
 have hi2:i<=s.size:=by simp at hlen hsl;omega
 by_cases q4:i=0
 ·rw[if_pos q4]at hR
  subst hR
  simp[q4]
  exact⟨rfl,rfl,rfl⟩
 ·rw[if_neg q4]at hR
  have q4':¬(i:Int)=0:=by omega
  subst hR
  simp[q4,q4',hi2,hxi,TokR.enc]
end Go.Gr
namespace Go.Gr
open Go.Abs Go.Proofs
theorem zse{l:List UInt8}(h:(tokL l).e=0):0<(tokL l).len/\(tokL l).len<=l.length:=by
 cases l with
 |nil=>simp[tokL,badR]at h
 | cons c r=>
  have hrl:=zhK false (c::r)
  have hrd:=zhK true (c::r)
  have hsl:=zqP (c::r)
  have hql:=zkv r.length r (Nat.le_refl _)
  rw[tokL]at h⊢
  split
  ·rename_i q
   rw[if_pos q]at h
   split
   ·rename_i p;rw[if_pos p]at h;simp[badR]at h
   ·refine⟨?_,hrl⟩
    show 0<runL false (c::r)
    rw[runL,if_pos (by simp[q])];omega
  rename_i q1
  rw[if_neg q1]at h
  split
  ·rename_i q
   rw[if_pos q]at h
   split
   ·refine⟨?_,hrd⟩
    show 0<runL true (c::r)
    rw[runL,if_pos (by simp[q])];omega
   ·rename_i p;rw[if_neg p]at h;simp[badR]at h
  rename_i q2
  rw[if_neg q2]at h
  split
  ·rename_i q
   rw[if_pos q]at h
   cases e:quoL r with
   |none=>rw[e]at h;simp[badR]at h
   |some x=>
    obtain⟨t,n⟩:=x
    rw[e]at h
    simp only at h⊢
    have:=hql t n e
    split
    ·rename_i p;rw[if_pos p]at h;simp[badR]at h
    ·simp;omega
  rename_i q3
  rw[if_neg q3]at h
  split
  ·rename_i p;rw[if_pos p]at h;simp[badR]at h
  ·simp only;omega
theorem zll:∀(l:List UInt8) (a b:Int),1<=a->1<=b->1<=(zbk l a b).1/\1<=(zbk l a b).2/\(zbk l a b).1<=a+l.length/\(zbk l a b).2<=b+l.length
 |[],a,b,h1,h2=>by simp[zbk];omega
 | c::l,a,b,h1,h2=>by
  rw[zbk]
  split
  ·have:=zll l (a+1) 1 (by omega) (by omega)
   simp only[List.length_cons];omega
  ·have:=zll l a (b+1) (by omega) (by omega)
   simp only[List.length_cons];omega
abbrev lexT(s:ByteArray)(line col:Int)(at' n:Nat):List (Nat × AV):=[(6,.c (.d (.int .i64 col))),(5,.c (.d (.int .i64 line))),(7,.c (.d (.int .i64 at'))),(4,.c (.msl 4 1 0 n)),(3,.c (.ptr 0 0)),(0,.c (.d (.str s)))]
abbrev dB:Blk:=.box [.d (.int .i64 0),.d (.int .i64 0),.d (.int .i64 0),.d (.int .i64 0)]
abbrev lexB(ts:List Tok):List Blk:=[dB,.arr 4 ((ts.map Tok.enc).map (·.map .d))]
set_option maxRecDepth 20000 in
theorem zyJ{c:Ctx}(hp:c.pure)(s:ByteArray)(hs:s.size<=65536)(ts:List Tok)(a k:Nat)(hk:a+k<=s.size)(l0 c0:Int)(hl0:1<=l0)(hc0:1<=c0)(hl1:l0<=100000)(hc1:c0<=100000)(R:Int × Int)(hR:zbk ((s.data.toList.drop a).take k) l0 c0=R){Q:Exit->St->Prop}{S:St}{g}{ms:List Nat}
  (h0:Match ms S ((9,.c (.d (.int .i64 a)))::(8,.c (.d (.int .i64 k)))::lexT s l0 c0 a ts.length) (lexB ts))
  (hQ:∀T,Abs.look T 6=.c (.d (.int .i64 R.2))->Abs.look T 5=.c (.d (.int .i64 R.1))->Abs.look T 7=.c (.d (.int .i64 a))->Abs.look T 8=.c (.d (.int .i64 k))->Abs.look T 4=.c (.msl 4 1 0 ts.length)->Abs.look T 3=.c (.ptr 0 0)->Abs.look T 0=.c (.d (.str s))->Q (.exit 2) ⟨T,hpOf (lexB ts),2⟩):lw_ Pg c lp_g02_Lex_2 Q g S:=by
 have hlen:=zbq s
 obtain⟨e,he⟩:∃e,e=a+k:=⟨_,rfl⟩
 have hw2:IntKind.i64.wrap ((a:Int)+k)=(e:Int):=by rw[wrap_i64 (by omega) (by omega)];omega
 refine W.loop zab hp (fun x:Nat × Int × Int=>a<=x.1/\x.1<=e/\1<=x.2.1/\1<=x.2.2/\x.2.1<=100000+x.1/\x.2.2<=100000+x.1/\zbk ((s.data.toList.drop x.1).take (e-x.1)) x.2.1 x.2.2=R)
  (fun x=>(9,.c (.d (.int .i64 x.1)))::(8,.c (.d (.int .i64 k)))::lexT s x.2.1 x.2.2 a ts.length) (fun _=>lexB ts) (fun x=>e-x.1) (a,l0,c0) ms ⟨Nat.le_refl _,by simp only;omega,hl0,hc0,by simp only;omega,by simp only;omega,by simp only;rw[he,Nat.add_sub_cancel_left];exact hR⟩ h0 fun⟨j,li,co⟩ ⟨h0',h1,h2,h3,h4,h5,h6⟩=>?_
 unfold lp_g02_Lex_2
 simp only at h0' h1 h2 h3 h4 h5 h6
 have hw1:IntKind.i64.wrap ((j:Int)+1)=((j+1:Nat):Int):=by rw[wrap_i64 (by omega) (by omega)];omega
 have hw3:IntKind.i64.wrap (co+1)=co+1:=wrap_i64 (by omega) (by omega)
 have hw4:IntKind.i64.wrap (li+1)=li+1:=wrap_i64 (by omega) (by omega)
 by_cases hj:j<e
 ·have hj':j<s.data.toList.length:=by omega
  rw[List.drop_eq_getElem_cons hj',show e-j=(e-(j+1))+1 by omega,List.take_succ_cons,zbk]at h6
  have hb:=zcD hj'
  generalize s.data.toList[j]=b at h6 hb
  by_cases q:b=10
  ·rw[if_pos q]at h6
   subst q
   simp[hw2,hb,hj]
   refine Abs.Next.mk (j+1,li+1,1) [0,1] ⟨by simp only;omega,by simp only;omega,by simp only;omega,by simp,by simp only;omega,by simp only;omega,h6⟩ (by simp only;omega) ?_
   simp[hw1,hw4]
  ·rw[if_neg q]at h6
   have q':=un q
   simp at q'
   simp[hw2,hb,hj,q,q']
   refine Abs.Next.mk (j+1,li,co+1) [0,1] ⟨by simp only;omega,by simp only;omega,by simp only;omega,by simp only;omega,by simp only;omega,by simp only;omega,h6⟩ (by simp only;omega) ?_
   simp[hw1,hw3]
 ·have:j=e:=by omega
  subst this
  rw[Nat.sub_self,List.take_zero,zbk]at h6
  subst h6
  simp[hw2]
  exact hQ _ (by simp) (by simp) (by simp) (by simp) (by simp) (by simp) (by simp)
theorem znm(l:List UInt8):(bA l).data.toList=l:=by simp[bA]
theorem zsf(l:List UInt8):(bA l).size=l.length:=by rw[<-zbq,znm]
theorem zsg(s:ByteArray)(p:Nat):s.extract p s.size=bA (s.data.toList.drop p):=by
 rw[ext_bA,List.take_of_length_le (by rw[List.length_drop,zbq];omega)]
@[simp] theorem Dia.enc_length(d:Dia):d.enc.length=4:=rfl
theorem zsh(n:Nat)(l:List UInt8)(a b:Int)(ts:List Tok):lexL (n+1) l a b ts=
  if l.drop (blkL false l)=[]then(ts++[⟨0,bs [],(zbk (l.take (blkL false l)) a b).1,(zbk (l.take (blkL false l)) a b).2⟩],noD)
  else if(if(tokL (l.drop (blkL false l))).e=0/\ts.length=8192 then 19 else(tokL (l.drop (blkL false l))).e)≠0 then([],⟨0,(zbk (l.take (blkL false l)) a b).1,(zbk (l.take (blkL false l)) a b).2,if(tokL (l.drop (blkL false l))).e=0/\ts.length=8192 then 19 else(tokL (l.drop (blkL false l))).e⟩)
  else lexL n ((l.drop (blkL false l)).drop (tokL (l.drop (blkL false l))).len) (zbk (l.take (blkL false l)) a b).1 ((zbk (l.take (blkL false l)) a b).2+(tokL (l.drop (blkL false l))).len) (ts++[⟨(tokL (l.drop (blkL false l))).kind,bA (tokL (l.drop (blkL false l))).text,(zbk (l.take (blkL false l)) a b).1,(zbk (l.take (blkL false l)) a b).2⟩]):=rfl
set_option maxRecDepth 20000 in
set_option maxHeartbeats 2000000 in
theorem zzw(s:ByteArray):PCall Pg 103 [.one (.str s)] (.tup [.one (.sl false 4 ((lexP s).1.map Tok.enc)),.agg (lexP s).2.enc]):=by
 refine zve (by simp) fun o c' hN hp=>?_
 have hs:s.size<=zah:=by have:=o.1;simpa only[DV.ok,D.ok]using this
 unfold zah at hs
 have hlen:=zbq s
 obtain⟨F0,hF0⟩:∃F0,lexP s=F0:=⟨_,rfl⟩
 rw[hF0]
 unfold lexP at hF0
 unfold zmw
 by_cases h6:65536<s.size
 ·have h6':(65536:Int)<s.size:=by omega
  rw[if_pos h6]at hF0
  subst hF0
  simp[h6,h6',Dia.enc]
 have h6':¬(65536:Int)<s.size:=by omega
 rw[if_neg h6]at hF0
 simp[h6,h6']
 refine owK.mk [.t 4] ?_
 simp
 refine W.loop zab hp (fun x:Nat × Nat × Int × Int × List Tok=>lexL x.1 (s.data.toList.drop x.2.1) x.2.2.1 x.2.2.2.1 x.2.2.2.2=F0/\x.2.1<=s.size/\s.size<x.1+x.2.1/\x.2.2.2.2.length<=8192/\1<=x.2.2.1/\1<=x.2.2.2.1/\x.2.2.1<=1+x.2.1/\x.2.2.2.1<=1+x.2.1)
  (fun x=>lexT s x.2.2.1 x.2.2.2.1 x.2.1 x.2.2.2.2.length) (fun x=>lexB x.2.2.2.2) (fun x=>x.1) (s.size+1,0,1,1,[]) [0,1] ⟨by simpa using hF0,by simp,by simp only;omega,by simp,by simp,by simp,by simp,by simp⟩ (by simp) fun⟨n,p,li,co,ts⟩ ⟨i1,i2,i3,i4,i5,i6,i7,i8⟩=>?_
 unfold zjC
 simp only at i1 i2 i4 i5 i6 i7 i8
 have i3:s.size<n+p:=i3
 obtain⟨n,rfl⟩:∃m,n=m+1:=⟨n-1,by omega⟩
 rw[zsh]at i1
 have hb:=zwO (bA (s.data.toList.drop p))
 rw[znm]at hb
 have hbl:=zku false (s.data.toList.drop p)
 rw[List.length_drop,hlen]at hbl
 have hx:=zsg s p
 simp[i2,hx]
 refine zac.mk hb ?_
 obtain⟨k,hk⟩:∃k,blkL false (s.data.toList.drop p)=k:=⟨_,rfl⟩
 rw[hk]at i1 hbl
 simp[hk]
 obtain⟨q,hq⟩:∃q,zbk ((s.data.toList.drop p).take k) li co=q:=⟨_,rfl⟩
 have hqb:=zll ((s.data.toList.drop p).take k) li co i5 i6
 rw[hq]at i1 hqb
 have htk:((s.data.toList.drop p).take k).length=k:=by rw[List.length_take,List.length_drop];omega
 rw[htk]at hqb
 refine zyJ hp s (by omega) ts p k (by omega) li co i5 i6 (by omega) (by omega) q hq (ms:=[0,1]) (by simp) fun T t6 t5 t7 t8 t4 t3 t0=>?_
 have hw:IntKind.i64.wrap ((p:Int)+k)=((p+k:Nat):Int):=by rw[wrap_i64 (by omega) (by omega)];omega
 rw[List.drop_drop]at i1
 have hx2:=zsg s (p+k)
 obtain⟨p',hp'⟩:∃p',p+k=p':=⟨_,rfl⟩
 rw[hp']at hw i1 hx2
 simp[t7,t8,hw,t0]
 by_cases he:s.size<=p'
 ·have he':p'=s.size:=by omega
  rw[if_pos (List.drop_of_length_le (by omega))]at i1
  subst i1
  have z:List.take ts.length (List.map ((fun x=>List.map AC.d x)∘Tok.enc) ts)=List.map ((fun x=>List.map AC.d x)∘Tok.enc) ts:=List.take_of_length_le (by simp)
  have z2:List.take (ts.length+1) (List.map Tok.enc ts++[[.int .i64 0,.str (bs []),.int .i64 q.1,.int .i64 q.2]])=List.map Tok.enc ts++[[.int .i64 0,.str (bs []),.int .i64 q.1,.int .i64 q.2]]:=List.take_of_length_le (by simp)
  simp[he,t4,t5,t6,t3,z,z2]
  exact⟨by omega,rfl,rfl⟩
 rw[if_neg (fun h=>by have:=congrArg List.length h;rw[List.length_drop]at this;simp at this;omega)]at i1
 have ht:=zxG (bA (s.data.toList.drop p')) (by rw[zsf,List.length_drop];omega)
 rw[znm]at ht
 have htl:=zse (l:=s.data.toList.drop p')
 rw[List.length_drop]at htl
 generalize tokL (s.data.toList.drop p')=t at*
 have hp2:p'<=s.size:=by omega
 simp[he,hp2,hx2,t7,t0]
 refine zac.mk ht ?_
 by_cases e0:t.e=0
 ·have htl:=htl e0
  by_cases hm:ts.length=8192
  ·rw[if_pos (by rw[if_pos ⟨e0,hm⟩];decide),if_pos ⟨e0,hm⟩]at i1
   subst i1
   have hm':((ts.length:Nat):Int)=8192:=by omega
   simp[t4,t5,t6,t3,TokR.enc,e0,hm,hm',Dia.enc]
  ·have hm':¬((ts.length:Nat):Int)=8192:=by omega
   rw[if_neg (by rw[if_neg (fun h=>hm h.2)];simpa using e0),List.drop_drop]at i1
   have hw1:IntKind.i64.wrap ((p':Int)+t.len)=((p'+t.len:Nat):Int):=by rw[wrap_i64 (by omega) (by omega)];omega
   have hw2:IntKind.i64.wrap (q.2+t.len)=q.2+t.len:=wrap_i64 (by omega) (by omega)
   simp[t4,t5,t6,t3,t7,TokR.enc,e0,hm,hm',hw1,hw2]
   refine⟨by omega,?_⟩
   refine Abs.Next.mk (n,p'+t.len,q.1,q.2+t.len,ts++[⟨t.kind,bA t.text,q.1,q.2⟩]) [0,3] ⟨i1,by simp only;omega,by simp only;omega,by simp;omega,by simp only;omega,by simp only;omega,by simp only;omega,by simp only;omega⟩ (by simp) ?_
   have z:List.take ts.length (List.map ((fun x=>List.map AC.d x)∘Tok.enc) ts)=List.map ((fun x=>List.map AC.d x)∘Tok.enc) ts:=List.take_of_length_le (by simp)
   simp[t3,t0,t5,hw1,hw2,Tok.enc,z]
 ·rw[if_pos (by rw[if_neg (fun h=>e0 h.1)];exact e0),if_neg (fun h=>e0 h.1)]at i1
  subst i1
  simp[t4,t5,t6,t3,TokR.enc,e0,Dia.enc]
end Go.Gr
namespace Go.Gr
open Go.Abs Go.Proofs
def noM:Mdl:=⟨[],[]⟩
def ps0:PS:=⟨0,0,0,0,0⟩
def endP(L:List Tok)(p:PS):PS:=if p.e=0/\(curT L p).kind≠0 then zc9 L 7 p else p
def zba(s:ByteArray):Mdl × Dia:=
 let x:=lexP s
 if x.2.e≠0 then(noM,x.2)else
  let m:=zel x.1 ps0
  let p:=endP x.1 m.2
  if p.e≠0 then(noM,⟨0,p.line,p.col,p.e⟩)else(m.1,⟨0,p.line,p.col,p.e⟩)
end Go.Gr
