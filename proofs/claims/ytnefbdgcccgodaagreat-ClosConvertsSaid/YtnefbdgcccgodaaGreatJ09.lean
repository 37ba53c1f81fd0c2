/- Texts of ours, joined and written short by a program of ours. -/
import Derived.Test.YtnefbdgcccgodaaGreatJ08
import Derived.Test.YtnefbdgcccgodaaGreatJ06
set_option linter.unusedVariables false
set_option linter.unusedSimpArgs false
namespace Go.Gr
open Go.Abs Go.Proofs
def zAD(x:D)(l:List Typ):Prop:=(x=.sl false 4 (l.map Typ.enc)/\l.length=2)\/∃row t,x=.sl true 4 [row]/\D.erdL row=t.enc/\row.length=4/\l=[t]
theorem zxI(a b c d e f g h i j k l m n o:AC)(N:Nod):splice [a,b,c,d,e,f,g,h,i,j,k,l,m,n,o] 5 (N.enc.map AC.d)=a::b::c::d::e::(N.enc.map .d++[n,o]):=by rw[N.enc_eq];try rfl
theorem zAE(a b c d e n o:AC)(N:Nod):cut (a::b::c::d::e::(N.enc.map .d++[n,o])) 0 15=a::b::c::d::e::(N.enc.map .d++[n,o]):=by rw[N.enc_eq];try rfl
theorem zzV(a b c d e n o:D)(N:Nod):cut (a::b::c::d::e::(N.enc++[n,o])) 0 15=a::b::c::d::e::(N.enc++[n,o]):=by rw[N.enc_eq];try rfl
theorem zzW(N:Nod)(a b:D):allD (N.enc.map AC.d++[.d a,.d b])=some (N.enc++[a,b]):=by
 have e:N.enc.map AC.d++[.d a,.d b]=(N.enc++[a,b]).map .d:=by simp
 rw[e];exact zql _
theorem zzX(f:Nat->Nat)(N:Nod)(a b:D):AC.rens f (N.enc.map AC.d++[.d a,.d b])=N.enc.map AC.d++[.d a,.d b]:=by
 have e:N.enc.map AC.d++[.d a,.d b]=(N.enc++[a,b]).map .d:=by simp
 rw[e];exact AC.rens_D _ _
theorem zAF(n:Nat)(N:Nod)(a b:D):AC.lts n (N.enc.map AC.d++[.d a,.d b])=true:=by
 have e:N.enc.map AC.d++[.d a,.d b]=(N.enc++[a,b]).map .d:=by simp
 rw[e];exact AC.lts_D _ _
theorem zlK{α β:Type}(f:α->β)(v:List α):List.take v.length (v.map f)=v.map f:=List.take_of_length_le (by rw[List.length_map];exact Nat.le_refl _)
attribute [simp] zxI zAE zzV zzW zzX zAF
section
variable {L:List Tok}
set_option maxRecDepth 20000 in
set_option maxHeartbeats 2000000 in
theorem zvH(hL:OkL L)(hl:L.length<=10000){d:Nat}{ki:PS->Typ × PS}(hk:Tame L ki)(Hk:KiOk L d ki)(p:PS)(h:p.at'<L.length)(hd:p.deep=d):
  ∃x,zAD x (zbN L ki p).1.2/\MCall Pg 109 [.c (.ptr 0 0)] [psB L p] (.tup [.c (.d (.str (zbN L ki p).1.1)),.c (.d x)]) [psB L (zbN L ki p).2]:=by
 have t1:=zal hL h (s:=bs [40])
 have t2:=t1.trans (zaI hL t1.lt)
 have t3:=t2.trans (zc1 hL hk _ t2.lt)
 have t4:=t3.trans (zal hL t3.lt (s:=bs [41]))
 have c1:=zaK hL (bs [40]) p h hl
 have c2:=zbG _ t1.lt hl
 have c3:=zf5 hL hl Hk _ t2.lt (by rw[t2.deep,hd])
 have c4:=zaK hL (bs [41]) _ t3.lt hl
 have c5:=zf5 hL hl Hk _ t4.lt (by rw[t4.deep,hd])
 have n1:=zfG (L:=L) ki (zav L (zay L (bs [40]) p)).2
 have n2:=zfG (L:=L) ki (zay L (bs [41]) (zbl L ki (zav L (zay L (bs [40]) p)).2).2)
 unfold zbN
 simp only
 generalize zay L (bs [40]) p=p1 at*
 generalize (zav L p1).1=s1 at*
 generalize (zav L p1).2=p2 at*
 generalize (zbl L ki p2).1=A at*
 generalize (zbl L ki p2).2=p3 at*
 generalize zay L (bs [41]) p3=p4 at*
 generalize (zbl L ki p4).1=B at*
 generalize (zbl L ki p4).2=p5 at*
 have hn:noT.enc=[.int .i64 0,.str (bs []),.sl false 1 [],.sl false 4 []]:=rfl
 rcases n1 with rfl|⟨T,rfl⟩<;>rcases n2 with rfl|⟨U,rfl⟩
 ·refine⟨.sl true 4 [[.int .i64 0,.str (bs []),.sl true 1 [],.sl true 4 []]],.inr ⟨_,noT,rfl,rfl,rfl,rfl⟩,?_⟩
  refine zes ⟨by simp,by simp,by simp,by simp,by simp,by simp,by simp⟩ fun ts hts ok hb c hN hp=>?_
  obtain⟨t,rfl⟩:=zaR hts
  unfold mc_gp_head
  simp
  refine zaa.mk [0] c1 (by simp) ?_
  simp
  refine zaa.mk [0] c2 (by simp) ?_
  simp
  refine zaa.mk [0] c3 (by simp) ?_
  simp
  refine zaa.mk [0] c4 (by simp) ?_
  simp
  refine zaa.mk [0] c5 (by simp) ?_
  simp
  refine fzK.mk [] ?_
  simp
  exact EndM.mk [0] [1] (by simp)
 ·refine⟨.sl false 4 [noT.enc,U.enc],.inl ⟨rfl,rfl⟩,?_⟩
  refine zes ⟨by simp,by simp,by simp,by simp,by simp,by simp,by simp⟩ fun ts hts ok hb c hN hp=>?_
  obtain⟨t,rfl⟩:=zaR hts
  unfold mc_gp_head
  simp
  refine zaa.mk [0] c1 (by simp) ?_
  simp
  refine zaa.mk [0] c2 (by simp) ?_
  simp
  refine zaa.mk [0] c3 (by simp) ?_
  simp
  refine zaa.mk [0] c4 (by simp) ?_
  simp
  refine zaa.mk [0] c5 (by simp) ?_
  simp
  refine fzK.mk [2] ?_
  simp[zak]
  exact EndM.mkE [0] [1] (by simp[hn,AV.erds])
 ·refine⟨.sl true 4 [T.enc],.inr ⟨_,T,rfl,by simp,by simp,rfl⟩,?_⟩
  refine zes ⟨by simp,by simp,by simp,by simp,by simp,by simp,by simp⟩ fun ts hts ok hb c hN hp=>?_
  obtain⟨t,rfl⟩:=zaR hts
  unfold mc_gp_head
  simp
  refine zaa.mk [0] c1 (by simp) ?_
  simp
  refine zaa.mk [0] c2 (by simp) ?_
  simp
  refine zaa.mk [0] c3 (by simp) ?_
  simp
  refine zaa.mk [0] c4 (by simp) ?_
  simp
  refine zaa.mk [0] c5 (by simp) ?_
  simp
  refine fzK.mk [] ?_
  simp
  exact EndM.mk [0] [1] (by simp)
 ·refine⟨.sl false 4 [T.enc,U.enc],.inl ⟨rfl,rfl⟩,?_⟩
  refine zes ⟨by simp,by simp,by simp,by simp,by simp,by simp,by simp⟩ fun ts hts ok hb c hN hp=>?_
  obtain⟨t,rfl⟩:=zaR hts
  unfold mc_gp_head
  simp
  refine zaa.mk [0] c1 (by simp) ?_
  simp
  refine zaa.mk [0] c2 (by simp) ?_
  simp
  refine zaa.mk [0] c3 (by simp) ?_
  simp
  refine zaa.mk [0] c4 (by simp) ?_
  simp
  refine zaa.mk [0] c5 (by simp) ?_
  simp
  refine fzK.mk [2] ?_
  simp[zak]
  exact EndM.mkE [0] [1] (by simp[hn,AV.erds])
abbrev mB(p:PS)(t:Nat × Nat)(b2:Blk)(is:List Imp)(v:List (List D)):List Blk:=[psB L p,.pin t 0,b2,.box [.msl 4 4 0 is.length,.msl 15 5 0 v.length],.arr 4 ((is.map Imp.enc).map (·.map .d)),.arr 15 (v.map (·.map .d))]
abbrev mT:List (Nat × AV):=[(0,.c (.ptr 0 0)),(2,.c (.ptr 2 0)),(3,.c (.ptr 3 0))]
set_option maxRecDepth 20000 in
set_option maxHeartbeats 2000000 in
theorem zy9(hL:OkL L)(hl:L.length<=10000){c:Ctx}(hp:c.pure)(t:Nat × Nat)(b2:Blk)(hb2:b2=.box [.d (.sl true 4 []),.d (.sl true 15 [])])(is:List Imp)(p0:PS)(hd0:p0.deep=0)(h:p0.at'<L.length)(F0:List Dec × PS)(hF:zbO L (L.length+1) [] p0=F0){Q:Exit->St->Prop}{S:St}{g}{ms:List Nat}
  (h0:Match ms S mT (mB (L:=L) p0 t b2 is []))
  (hQ:∀T v,Abs.look T 0=.c (.ptr 0 0)->Abs.look T 2=.c (.ptr 2 0)->Abs.look T 3=.c (.ptr 3 0)->D.erdE v=F0.1.map Dec.enc->Q (.exit 2) ⟨T,hpOf (mB (L:=L) F0.2 t b2 is v),6⟩):lw_ Pg c zeO Q g S:=by
 refine W.loop zab hp (fun x:Nat × List Dec × List (List D) × PS=>zbO L x.1 x.2.1 x.2.2.2=F0/\Tm L p0 x.2.2.2/\(0<x.1/\(x.2.2.2.e≠0\/L.length<x.1+x.2.2.2.at'))/\x.2.1.length+x.1<=L.length+1/\D.erdE x.2.2.1=x.2.1.map Dec.enc)
  (fun x=>mT) (fun x=>mB (L:=L) x.2.2.2 t b2 is x.2.2.1) (fun x=>x.1) (L.length+1,[],[],p0) ms ⟨hF,Tm.refl h,⟨by simp,.inr (by simp only;omega)⟩,by simp,rfl⟩ h0 fun⟨n,l,v,q⟩ ⟨i1,i2,i3,i4,i5⟩=>?_
 subst hb2
 unfold zeO
 simp only at i1 i2 i4 i5
 have i3:0<n/\(q.e≠0\/L.length<n+q.at'):=i3
 have hvl:v.length=l.length:=by rw[<-zlq,i5,List.length_map]
 have hlt:=i2.lt
 obtain⟨n,rfl⟩:∃m,n=m+1:=⟨n-1,by omega⟩
 have hg:=zcZ hlt
 rw[zbO]at i1
 by_cases x:q.e=0
 ·by_cases k:(curT L q).kind=0
  ·rw[if_neg (by simp[k])]at i1
   subst i1
   simp[hg,x,k]
   refine⟨by decide,?_⟩
   exact hQ _ v (by simp) (by simp) (by simp) i5
  ·rw[if_pos ⟨x,k⟩]at i1
   have e1:=zag hL hlt (s:=zdF)
   have e2:=e1.trans (zal hL e1.lt (s:=wFn))
   have e3:=e2.trans (zaI hL e2.lt)
   have e4:=e3.trans (zki hL _ e3.lt)
   have e5:=e4.trans (zeh hL (zcB hL) _ e4.lt)
   have e6:=e5.trans (zal hL e5.lt (s:=bs [61]))
   have e7:=e6.trans (zkh hL _ e6.lt)
   have e8:=e7.trans (zal hL e7.lt (s:=bs [59]))
   have c1:=zaE zdF q hlt hl
   have c2:=zaK hL wFn _ e1.lt hl
   have c3:=zbG _ e2.lt hl
   have c4:=zwN hL hl _ e3.lt (by rw[e3.deep,i2.deep,hd0])
   obtain⟨hx,hxd,c5⟩:=zvH hL hl (zcB hL) (zyq hL hl) _ e4.lt (by rw[e4.deep,i2.deep,hd0])
   have c6:=zaK hL (bs [61]) _ e5.lt hl
   have c7:=zAj hL hl _ e6.lt (by rw[e6.deep,i2.deep,hd0])
   have c8:=zaK hL (bs [59]) _ e7.lt hl
   have hg1:=zcZ e1.lt
   unfold decP at i1
   simp only at i1
   generalize (zad L zdF q).1=ex at*
   generalize (zad L zdF q).2=q1 at*
   generalize zay L wFn q1=q2 at*
   generalize (zav L q2).1=nm at*
   generalize (zav L q2).2=q3 at*
   generalize (zeG L q3).1=vs at*
   generalize (zeG L q3).2=q4 at*
   generalize (zbN L (kiP L) q4).1.1=pm at*
   generalize (zbN L (kiP L) q4).1.2=ty at*
   generalize (zbN L (kiP L) q4).2=q5 at*
   generalize zay L (bs [61]) q5=q6 at*
   generalize (exP L q6).1=bd at*
   generalize (exP L q6).2=q7 at*
   have hlt8:=e8.lt
   have hon:(zay L (bs [59]) q7).e≠0\/(zay L (bs [59]) q7).at'=q7.at'+1:=zzm
   have hle7:=e7.le
   have hle8:=e8.le
   have hlen:L.length<n+1+q.at':=i3.2.resolve_left (by simp[x])
   have hn0:0<n:=by omega
   generalize zay L (bs [59]) q7=q8 at*
   have hon':q8.e≠0\/L.length<n+q8.at':=by
    rcases hon with r|r
    ·exact .inl r
    ·exact .inr (by omega)
   simp[hg,x,k]
   refine⟨by decide,?_⟩
   refine zaa.mk [0] c1 (by simp[x]) ?_
   simp[hg1]
   refine⟨by decide,?_⟩
   refine zaa.mk [0] c2 (by simp) ?_
   simp
   refine zaa.mk [0] c3 (by simp) ?_
   simp
   refine zaa.mk [0] c4 (by simp) ?_
   simp
   refine zaa.mk [0] c5 (by simp) ?_
   rcases hxd with⟨rfl,hty⟩|⟨row,T,rfl,hrow,hrl,rfl⟩
   ·simp[hty]
    refine fzK.mk [] ?_
    simp
    refine zaa.mk [0] c6 (by simp) ?_
    simp
    refine zaa.mk [0] c7 (by simp) ?_
    simp
    refine zaa.mk [0] c8 (by simp) ?_
    simp
    refine⟨by omega,?_⟩
    rw[if_neg (by omega)]at i1
    refine Abs.Next.mk (n,l++[⟨nm,ex,vs,pm,ty,bd,(curT L q1).line,(curT L q1).col⟩],v++[[.str nm,.bool ex,.sl false 5 (vs.map encV),.str pm,.sl false 4 (ty.map Typ.enc)]++bd.enc++[.int .i64 (curT L q1).line,.int .i64 (curT L q1).col]],q8) [0,1,2,3,4,7] ⟨i1,i2.trans e8,⟨hn0,hon'⟩,by simp;omega,by simp[i5,Dec.enc]⟩ (by simp) ?_
    simp
    exact zlK _ _
   ·simp
    refine fzK.mk [7] ?_
    simp[zak]
    refine zaa.mk [0] c6 (by simp) ?_
    simp[zak]
    refine zaa.mk [0] c7 (by simp) ?_
    simp[zak]
    refine zaa.mk [0] c8 (by simp) ?_
    simp[zak]
    refine⟨by omega,?_⟩
    rw[if_pos (by simp)]at i1
    have hn:noT.enc=[.int .i64 0,.str (bs []),.sl false 1 [],.sl false 4 []]:=rfl
    refine Abs.Next.mk (n,l++[⟨nm,ex,vs,pm,[T]++[noT],bd,(curT L q1).line,(curT L q1).col⟩],v++[[.str nm,.bool ex,.sl false 5 (vs.map encV),.str pm,.sl false 4 [row,[.int .i64 0,.str (bs []),.sl true 1 [],.sl true 4 []]]]++bd.enc++[.int .i64 (curT L q1).line,.int .i64 (curT L q1).col]],q8) [0,1,2,3,4,8] ⟨i1,i2.trans e8,⟨hn0,hon'⟩,by simp;omega,by simp[i5,Dec.enc,hrow,hn]⟩ (by simp) ?_
    simp[zak]
    exact zlK _ _
 ·rw[if_neg (by simp[x])]at i1
  subst i1
  simp[hg,x]
  refine⟨by decide,?_⟩
  exact hQ _ v (by simp) (by simp) (by simp) i5
set_option maxRecDepth 20000 in
set_option maxHeartbeats 2000000 in
theorem zza(hL:OkL L)(hl:L.length<=10000){c:Ctx}(hp:c.pure)(t:Nat × Nat)(b2:Blk)(hb2:b2=.box [.d (.sl true 4 []),.d (.sl true 15 [])])(p0:PS)(h:p0.at'<L.length)(F0:List Imp × PS)(hF:zdG L (L.length+1) [] p0=F0){Q:Exit->St->Prop}{S:St}{g}{ms:List Nat}
  (h0:Match ms S mT (mB (L:=L) p0 t b2 [] []))
  (hQ:∀T M n,Abs.look T 0=.c (.ptr 0 0)->Abs.look T 2=.c (.ptr 2 0)->Abs.look T 3=.c (.ptr 3 0)->M 0=psB L F0.2->M 1=.pin t 0->M 2=b2->M 3=.box [.msl 4 4 0 F0.1.length,.msl 15 5 0 0]->M 4=.arr 4 ((F0.1.map Imp.enc).map (·.map .d))->M 5=.arr 15 []->Q (.exit 0) ⟨T,M,n⟩):lw_ Pg c lp_gp_module_0 Q g S:=by
 refine W.loop zab hp (fun x:Nat × List Imp × PS=>zdG L x.1 x.2.1 x.2.2=F0/\Tm L p0 x.2.2/\L.length<x.1+x.2.2.at'/\x.2.1.length<=x.2.2.at')
  (fun x=>mT) (fun x=>mB (L:=L) x.2.2 t b2 x.2.1 []) (fun x=>x.1) (L.length+1,[],p0) ms ⟨hF,Tm.refl h,by simp only;omega,by simp⟩ h0 fun⟨n,l,q⟩ ⟨i1,i2,i3,i4⟩=>?_
 subst hb2
 unfold lp_gp_module_0
 simp only at i1 i2 i4
 have i3:L.length<n+q.at':=i3
 have hlt:=i2.lt
 obtain⟨n,rfl⟩:∃m,n=m+1:=⟨n-1,by omega⟩
 have hg:=zcZ hlt
 rw[zdG]at i1
 have c1:=zaE zb4 q hlt hl
 by_cases x:q.e=0
 ·by_cases k:(zad L zb4 q).1=true
  ·rw[if_pos ⟨x,k⟩]at i1
   simp only at i1
   have e1:=zag hL hlt (s:=zb4)
   have e2:=e1.trans (zaI hL e1.lt)
   have e3:=e2.trans (zal hL e2.lt (s:=bs [58]))
   have e4:=e3.trans (zh8 hL (L.length+1) [] _ e3.lt)
   have e5:=e4.trans (zal hL e4.lt (s:=bs [59]))
   have c2:=zbG _ e1.lt hl
   have c3:=zaK hL (bs [58]) _ e2.lt hl
   have c4:=zuU hL hl _ e3.lt
   have c5:=zaK hL (bs [59]) _ e4.lt hl
   have ha:=(take_at k).1
   have hle:(zad L zb4 q).2.at'<=(zay L (bs [59]) (zbR L (L.length+1) [] (zay L (bs [58]) (zav L (zad L zb4 q).2).2)).2).at':=by
    have h1:=(zaI hL e1.lt).le
    have h2:=(zal hL e2.lt (s:=bs [58])).le
    have h3:=(zh8 hL (L.length+1) [] _ e3.lt).le
    have h4:=(zal hL e4.lt (s:=bs [59])).le
    omega
   generalize (zad L zb4 q).2=q1 at*
   generalize (zav L q1).1=nm at*
   generalize (zav L q1).2=q2 at*
   generalize zay L (bs [58]) q2=q3 at*
   generalize (zbR L (L.length+1) [] q3).1=ns at*
   generalize (zbR L (L.length+1) [] q3).2=q4 at*
   generalize zay L (bs [59]) q4=q5 at*
   simp[hg,x]
   refine⟨by decide,?_⟩
   refine zaa.mk [0] c1 (by simp[x]) ?_
   simp[k]
   refine zaa.mk [0] c2 (by simp) ?_
   simp
   refine zaa.mk [0] c3 (by simp) ?_
   simp
   refine zaa.mk [0] c4 (by simp) ?_
   simp
   refine zaa.mk [0] c5 (by simp) ?_
   simp
   refine⟨by omega,?_⟩
   refine Abs.Next.mk (n,l++[⟨nm,ns,(curT L q).line,(curT L q).col⟩],q5) [0,1,2,3,7,5] ⟨i1,i2.trans e5,by simp only;omega,by simp;omega⟩ (by simp) ?_
   simp[Imp.enc]
   exact zlK _ _
  ·rw[if_neg (fun z=>k z.2)]at i1
   subst i1
   rw[zaF k]at c1
   rw[Bool.not_eq_true]at k
   simp[hg,x]
   refine⟨by decide,?_⟩
   refine zaa.mk [0] c1 (by simp[x]) ?_
   simp[k]
   refine hQ _ _ _ (by simp) (by simp) (by simp) (by simp) (by simp) (by simp) (by simp) (by simp) (by simp)
 ·rw[if_neg (by simp[x])]at i1
  subst i1
  simp[hg,x]
  refine hQ _ _ _ (by simp) (by simp) (by simp) (by simp) (by simp) (by simp) (by simp) (by simp) (by simp)
set_option maxRecDepth 20000 in
set_option maxHeartbeats 2000000 in
theorem ztX(hL:OkL L)(hl:L.length<=10000)(p:PS)(h:p.at'<L.length)(hd:p.deep=0):
  MCall Pg 71 [.c (.ptr 0 0)] [psB L p] (.ag ((zel L p).1.enc.map .d)) [psB L (zel L p).2]:=by
 refine zqj ⟨by simp,by simp,by simp,by simp,by simp,by simp,by simp⟩ fun ts hts ok hb c hN hp=>?_
 obtain⟨t,rfl⟩:=zaR hts
 have k1:=zhp hL (L.length+1) [] _ h
 have k2:=zkj hL (L.length+1) [] _ k1.lt
 obtain⟨I0,hI0⟩:∃F0,zdG L (L.length+1) [] p=F0:=⟨_,rfl⟩
 unfold zjF zel
 simp only
 rw[hI0]at k1 k2⊢
 obtain⟨D0,hD0⟩:∃F0,zbO L (L.length+1) [] I0.2=F0:=⟨_,rfl⟩
 rw[hD0]
 simp
 refine owK.mk [.c 3 0,.c 3 1] ?_
 simp
 refine zza hL hl hp t _ rfl p h I0 hI0 (ms:=[0,1,2,3,4,5]) (by simp) fun T M n t0 t2 t3 m0 m1 m2 m3 m4 m5=>?_
 simp
 refine zy9 hL hl hp t _ rfl I0.1 I0.2 (by rw[k1.deep,hd]) k1.lt D0 hD0 (ms:=[0,1,2,3,4,5]) (by simp[t0,t2,t3,m0,m1,m2,m3,m4,m5]) fun T v t0 t2 t3 hv=>?_
 simp[t0,t2,t3]
 refine fzK.mk [4,5] ?_
 have z:List.take I0.1.length (List.map Imp.enc I0.1)=List.map Imp.enc I0.1:=List.take_of_length_le (by simp)
 simp[zak,t2,z, -List.map_map]
 exact EndM.mkE [0] [1] (by simp[zak,Mdl.enc,hv, -List.map_map])
end
end Go.Gr
namespace Go.Gr
open Go.Abs Go.Proofs
theorem zwU{l:List UInt8}(h:(tokL l).e=0):(tokL l).kind≠0:=by
 cases l with
 |nil=>simp[tokL,badR]at h
 |cons c r=>
  rw[tokL]at h⊢
  repeat' split
  all_goals simp_all[badR]
  all_goals (split<;>simp)
theorem zsr:∀(n:Nat) (l:List UInt8) (a b:Int) (ts:List Tok),l.length<n->ts.length<=8192->(∀t,t∈ts->t.kind≠0)->(lexL n l a b ts).2.e=0->
  ∃us x,(lexL n l a b ts).1=us++[x]/\x.kind=0/\(∀t,t∈us->t.kind≠0)/\us.length<=8192
 |0,l,_,_,_,h,_,_,_=>by omega
 | n+1,l,a,b,ts,h,hl,hk,he=>by
  rw[zsh]at he⊢
  by_cases q:l.drop (blkL false l)=[]
  ·rw[if_pos q]
   exact⟨ts,_,rfl,rfl,hk,hl⟩
  rw[if_neg q]at he⊢
  by_cases q2:(if(tokL (l.drop (blkL false l))).e=0/\ts.length=8192 then(19:Int)else(tokL (l.drop (blkL false l))).e)≠0
  ·rw[if_pos q2]at he
   exact absurd he q2
  rw[if_neg q2]at he⊢
  have q3:¬((tokL (l.drop (blkL false l))).e=0/\ts.length=8192):=fun z=>by rw[if_pos z]at q2;exact q2 (by decide)
  rw[if_neg q3]at q2
  have e0:(tokL (l.drop (blkL false l))).e=0:=Classical.byContradiction fun z=>q2 z
  have htl:=zse e0
  refine zsr n _ _ _ _ ?_ ?_ ?_ he
  ·rw[List.length_drop,List.length_drop]at*;omega
  ·have:ts.length≠8192:=fun z=>q3 ⟨e0,z⟩
   simp;omega
  ·intro t ht
   rcases List.mem_append.1 ht with ht|ht
   ·exact hk t ht
   ·simp at ht
    subst ht
    exact zwU e0
theorem zkm{s:ByteArray}(h:(lexP s).2.e=0):OkL (lexP s).1/\(lexP s).1.length<=10000:=by
 unfold lexP at h⊢
 split
 ·rename_i q;rw[if_pos q]at h;simp at h
 rename_i q
 rw[if_neg q]at h
 obtain⟨us,x,e,hx,hu,hl⟩:=zsr (s.size+1) s.data.toList 1 1 [] (by rw[zbq];omega) (by simp) (by simp) h
 rw[e]
 refine⟨⟨by simp,fun i hi hk=>?_⟩,by simp;omega⟩
 simp only[List.length_append,List.length_singleton]at hi⊢
 rcases Nat.lt_or_ge i us.length with h|h
 ·omega
 ·have:i=us.length:=by omega
  subst this
  exfalso;apply hk
  rw[List.getD_eq_getElem?_getD,List.getElem?_append_right (Nat.le_refl _)]
  simpa using hx
set_option maxRecDepth 20000 in
theorem zwV(s:ByteArray):MCall Pg 70 [.c (.d (.str s))] [] (.tup [.c (.ptr 0 0),.ag ((lexP s).2.enc.map .d)]) [psB (lexP s).1 ps0]:=by
 refine zqk ⟨by simp,by simp,by simp,by simp,by simp,by simp[Dia.enc];rfl,by simp⟩ fun ts hts ok hb c hN hp=>?_
 have hts:ts=[]:=List.length_eq_zero_iff.1 hts
 subst hts
 unfold mc_g05_begun
 simp
 refine zac.mk (zzw s) ?_
 simp
 exact⟨by decide,EndM.mk [2] [] (by simp[ps0])⟩
theorem zyP{L:List Tok}(hL:OkL L)(hl:L.length<=10000)(p:PS)(h:p.at'<L.length):MCall Pg 72 [.c (.ptr 0 0)] [psB L p] (.ag ((⟨0,(endP L p).line,(endP L p).col,(endP L p).e⟩:Dia).enc.map .d)) [psB L (endP L p)]:=by
 refine zvh ⟨by simp,by simp,by simp,by simp,by simp,by simp[Dia.enc],by simp⟩ fun ts hts ok hb c hN hp=>?_
 obtain⟨t,rfl⟩:=zaR hts
 have hg:=zcZ h
 have hf:=zgl (L:=L) 7 p h
 unfold mc_gp_end endP
 generalize curT L p=T at*
 by_cases h0:p.e=0<;>by_cases h1:T.kind=0
 ·simp[hg,h0,h1]
  exact⟨by decide,by decide,EndM.mk [0] [1] (by simp[Dia.enc,h0,h1])⟩
 ·simp[hg,h0,h1]
  refine⟨by decide,?_⟩
  refine zaa.mk [0] hf (by simp[h0]) ?_
  simp
  exact⟨by decide,EndM.mk [0] [1] (by simp[Dia.enc,h0,h1])⟩
 all_goals
  simp[hg,h0,h1]
  exact⟨by decide,by decide,EndM.mk [0] [1] (by simp[Dia.enc,h0,h1])⟩
@[simp] theorem zBQ(d:Dia):cut d.enc 0 4=d.enc:=rfl
@[simp] theorem zBl(d:Dia):cut (d.enc.map AC.d) 0 4=d.enc.map .d:=rfl
@[simp] theorem Dia.enc_3(d:Dia):d.enc[3]?=some (.int .i64 d.e):=rfl
@[simp] theorem Dia.enc_g3(d:Dia)(h:3<d.enc.length):d.enc[3]=.int .i64 d.e:=rfl
@[simp] theorem Dia.er_map(d:Dia):d.enc.map D.er=d.enc:=rfl
@[simp] theorem Mdl.er_map(d:Mdl):d.enc.map D.er=d.enc:=rfl
@[simp] theorem zBR(d:Mdl):cut d.enc 0 2=d.enc:=rfl
@[simp] theorem zBm(d:Mdl):cut (d.enc.map AC.d) 0 2=d.enc.map .d:=rfl
set_option maxRecDepth 20000 in
theorem zwW(s:ByteArray):PCall Pg 44 [.one (.str s)] (.tup [.agg (zba s).1.enc,.agg (zba s).2.enc]):=by
 refine zrN (by simp) fun o c' hN hp=>?_
 have hb:=zwV s
 have hk:=zkm (s:=s)
 obtain⟨F0,hF0⟩:∃F0,zba s=F0:=⟨_,rfl⟩
 rw[hF0]
 unfold zba at hF0
 simp only at hF0
 generalize (lexP s).1=L at*
 generalize (lexP s).2=d at*
 unfold mc_g05_Parse
 simp
 refine zaa.mk [] hb (by simp) ?_
 simp
 by_cases h0:d.e=0
 rotate_left
 ·rw[if_pos h0]at hF0
  subst hF0
  simp[h0]
  exact⟨by decide,rfl⟩
 rw[if_neg (by simp[h0])]at hF0
 obtain⟨hL,hl⟩:=hk h0
 have c1:=ztX hL hl ps0 hL.pos rfl
 have t1:=zuT hL ps0 hL.pos
 generalize (zel L ps0).1=M at*
 generalize (zel L ps0).2=p at*
 have c2:=zyP hL hl p t1.lt
 generalize endP L p=q at*
 simp[h0]
 refine zaa.mk [2] c1 (by simp[ps0]) ?_
 simp
 refine zaa.mk [2] c2 (by simp) ?_
 simp
 by_cases h1:q.e=0
 ·rw[if_neg (by simp[h1])]at hF0
  subst hF0
  simp[h1]
  decide
 ·rw[if_pos h1]at hF0
  subst hF0
  simp[h1]
  exact⟨by decide,rfl⟩
end Go.Gr
namespace Go.Gr
open Go.Abs Go.Proofs
mutual
def za0:Typ->Int->Int
 |.mk _ _ _ l,m=>za8 l m 1
def za8:List Typ->Int->Int->Int
 |[],_,n=>n
 |t::l,m,n=>if n<m then za8 l m (n+za0 t (m-n))else n
end
def za4:Nat->Typ->Int
 |0,_=>1
 |1,_=>1
 |n+2,t=>(t.kids.foldl (fun h k=>if h<za4 (n+1) k then za4 (n+1) k else h) 0)+1
def eqF{α:Type}(q:α->α->Bool):List α->List α->Bool
 |[],[]=>true
 |x::a,y::b=>q x y&&eqF q a b
 |_,_=>false
mutual
def za5:Typ->Typ->Bool
 |.mk k n s l,u=>decide (k=u.kind)&&(decide (n=u.name)&&(decide (s=u.names)&&zdj l u.kids))
def zdj:List Typ->List Typ->Bool
 |[],[]=>true
 |t::l,u::r=>za5 t u&&zdj l r
 |[],_::_=>false
 |_::_,[]=>false
end
def bT(k:Int):Typ:=.mk k (bs []) [] []
def zax(t:Typ):Int:=if t.kind<1\/6<t.kind then -1 else t.kind-1
def ltS(a b:ByteArray):Bool:=Op.bytesLess a.data.toList b.data.toList
def posR(s:ByteArray):List ByteArray->Nat
 |[]=>0
 |n::l=>if ltS n s=true then posR s l+1 else 0
def recR:List ByteArray->List Typ->List ByteArray->List Typ->(List ByteArray × List Typ) × Bool
 |s::ss,t::ts,ns,ks=>
  if za1 s=false\/ns[posR s ns]?=some s then((ns,ks),false)else recR ss ts (ns.take (posR s ns)++s::ns.drop (posR s ns)) (ks.take (posR s ns)++t::ks.drop (posR s ns))
 |_,_,ns,ks=>((ns,ks),true)
def zcE(ns:List ByteArray)(ts:List Typ):Typ × Bool:=
 if ns.length≠ts.length\/16<ns.length then(.mk 5 (bs []) [] [],false)else(.mk 5 (bs []) (recR ns ts [] []).1.1 (recR ns ts [] []).1.2,(recR ns ts [] []).2)
def mems(k:Typ):List Typ:=if k.kind=7 then k.kids else [k]
def tagR(tag:Int):List Typ->Bool->List Typ->(Bool × List Typ) × Bool
 |[],had,ks=>((had,ks),true)
 | x::l,had,ks=>
  if x.kind=0 then((had,ks),false)else if zax x≠tag then tagR tag l had ks else
   let ks':=if had then ks else ks++[x]
   if za5 x (ks'.getLastD noT)=true then tagR tag l true ks' else((true,ks'),false)
def zbs(all:List Typ):List Int->List Typ->List Typ × Bool
 |[],ks=>(ks,true)
 |tag::l,ks=>if(tagR tag all false ks).2=true then zbs all l (tagR tag all false ks).1.2 else((tagR tag all false ks).1.2,false)
def zdU(kids:List Typ):Typ × Bool:=
 let r:=zbs (kids.flatMap mems) [0,1,2,3,4,5] []
 if r.2=true then(match r.1 with
  |[t]=>(t,true)
  |l=>(.mk 7 (bs []) [] l,decide (0<l.length)))
 else(.mk 7 (bs []) [] r.1,false)
def finR(k:Int)(s:List ByteArray)(l:List Typ):Typ × Bool:=
 if k=5 then zcE s l else if k=6 then(.mk 6 (bs []) [] l,decide (l.length=2))else zdU l
mutual
def zaP:Typ->Typ × Bool
 |.mk k n s l=>if 5<=k/\k<=7 then(if(zaD l).2=true then finR k s (zaD l).1 else(noT,false))else if 0<=k/\k<=4 then(bT k,true)else(noT,false)
def zaD:List Typ->List Typ × Bool
 |[]=>([],true)
 |t::l=>if(zaP t).2=true then((zaP t).1::(zaD l).1,(zaD l).2)else([],false)
end
def zaS(t:Typ):Typ × Int:=if 16<za4 17 t\/200<za0 t 201 then(noT,9)else if(zaP t).2=true then((zaP t).1,0)else(noT,9)
mutual
def zbW:Typ->Bool->ByteArray
 | .mk k n s l,br=>
  if k=0 then bs [97,110,121]else if k=1 then bs [110,117,108,108]else if k=2 then bs [98,111,111,108]else if k=3 then bs [105,110,116]else if k=4 then bs [115,116,114]
  else if k=5 then bs [123]++zcd s l (bs []) 0++bs [125]
  else if k=6 then(match l with
   |a::b::_=>if br=true then bs [40]++(zbW a true++bs [32,45,62,32]++zbW b false)++bs [41]else zbW a true++bs [32,45,62,32]++zbW b false
   |_=>bs [])
  else ze4 l (bs []) 0
def zcd:List ByteArray->List Typ->ByteArray->Nat->ByteArray
 |s::ss,t::ts,out,i=>zcd ss ts ((if 0<i then out++bs [44,32]else out)++s++bs [58,32]++zbW t false) (i+1)
 |_,_,out,_=>out
def ze4:List Typ->ByteArray->Nat->ByteArray
 |t::ts,out,i=>ze4 ts ((if 0<i then out++bs [32,124,32]else out)++zbW t true) (i+1)
 |[],out,_=>out
end
def isNR(t:Typ):Bool:=decide ((zaS t).2=0)&&za5 (zaS t).1 t
def zd1(t:Typ):ByteArray:=if isNR t=true then zbW t false else bs []
structure Prt where
 tag:Int
 opn:Bool
 t:Typ
def Prt.enc(p:Prt):List D:=.int .i64 p.tag::.bool p.opn::p.t.enc
def noP:Prt:=⟨0,false,noT⟩
def zaH(t:Typ):List Prt:=
 if t.kind=0 then [⟨0,false,bT 1⟩,⟨1,false,bT 2⟩,⟨2,false,bT 3⟩,⟨3,false,bT 4⟩,⟨4,true,bT 5⟩,⟨5,false,.mk 6 (bs []) [] [noT,noT]⟩]
 else if t.kind≠7 then [⟨zax t,false,t⟩]else t.kids.map fun k=>⟨zax k,false,k⟩
def partR(l:List Prt)(tag:Int):Prt × Bool:=match l.find? fun p=>decide (p.tag=tag)with
 |some p=>(p,true)
 |none=>(noP,false)
def zbx:List ByteArray->List Typ->ByteArray->Typ × Bool
 |n::ns,k::ks,s=>if n=s then(k,true)else zbx ns ks s
 |_,_,_=>(noT,false)
def zaz(t:Typ)(s:ByteArray):Typ × Bool:=zbx t.names t.kids s
def zds(rc:Typ->Typ->Bool)(m:Typ):List ByteArray->List Typ->Bool
 |s::ss,k::ks=>(zaz m s).2&&(rc (zaz m s).1 k&&zds rc m ss ks)
 |_,_=>true
def kid0(t:Typ):Typ:=t.kids.getD 0 noT
def kid1(t:Typ):Typ:=t.kids.getD 1 noT
def zb9 (loose:Bool):Nat->Typ->Typ->Bool
 |0,_,_=>false
 | n+1,a,b=>
  if a.kind=0\/b.kind=0 then loose||decide (a.kind=b.kind)else
   (zaH a).all fun p=>
    let q:=partR (zaH b) p.tag
    q.2&&(zds (zb9 loose n) p.t q.1.t.names q.1.t.kids&&(!decide (q.1.tag=5)||(zb9 loose n (kid0 q.1.t) (kid0 p.t)&&zb9 loose n (kid1 p.t) (kid1 q.1.t))))
mutual
def dpt:Typ->Nat
 |.mk _ _ _ l=>dpts l+1
def dpts:List Typ->Nat
 |[]=>0
 |t::l=>max (dpt t) (dpts l)
end
def belR(loose:Bool)(a b:Typ):Bool:=zb9 loose (dpt a+dpt b) a b
def SubR(a b:Typ):Bool:=isNR a&&(isNR b&&belR false a b)
def zfQ(a b:Typ):Bool:=isNR a&&(isNR b&&belR true a b)
def ze5(a b:Typ):List Int->List Typ->Option (List Typ)
 |[],l=>some l
 | tag::r,l=>
  let m:=partR (zaH a) tag
  let n:=partR (zaH b) tag
  if m.2=true/\n.2=true then
   (if belR false m.1.t n.1.t=true then ze5 a b r (l++[n.1.t])else if belR false n.1.t m.1.t=true then ze5 a b r (l++[m.1.t])else none)
  else if m.2=true then ze5 a b r (l++[m.1.t])else if n.2=true then ze5 a b r (l++[n.1.t])else ze5 a b r l
def zeu(a b:Typ):Typ:=
 if SubR a b=true then b else if SubR b a=true then a
 else if isNR a=false\/isNR b=false\/a.kind=0\/b.kind=0 then noT
 else match ze5 a b [0,1,2,3,4,5] []with
  |none=>noT
  |some l=>if(zaS (.mk 7 (bs []) [] l)).2=0 then(zaS (.mk 7 (bs []) [] l)).1 else noT
def zbI(t:Typ)(tag:Int):Typ × Typ:=
 if isNR t=false\/tag<0\/6<=tag then(t,t)
 else if t.kind=0 then(if tag=5 then(t,t)else(bT (1+tag),t))
 else if(partR (zaH t) tag).2=false then(t,t)
 else if t.kind≠7 then(t,t)
 else match t.kids.filter fun k=>decide (zax k≠tag)with
  |[r]=>((partR (zaH t) tag).1.t,r)
  |l=>((partR (zaH t) tag).1.t,.mk 7 (bs []) [] l)
end Go.Gr
namespace Go.Gr
open Go.Abs Go.Proofs
def fi{α:Type}(q:α->Bool):Nat->List α->Int
 |_,[]=> -1
 |j,x::l=>if q x=true then j else fi q (j+1) l
def modZ(names:List ByteArray)(s:ByteArray):Int:=fi (fun n=>decide (n=s)) 0 names
structure Ent where
 name:ByteArray
 module:Int
 decl:Int
def Ent.enc(e:Ent):List D:=[.str e.name,.int .i64 e.module,.int .i64 e.decl]
def noE:Ent:=⟨bs [],0,0⟩
structure Lnk where
 names:List ByteArray
 mods:List Mdl
 scopes:List (List Ent)
 main:Ent
def Lnk.enc(l:Lnk):List D:=[.sl false 1 (encS l.names),.sl false 2 (l.mods.map Mdl.enc),.sl false 1 (l.scopes.map fun s=>[.sl false 3 (s.map Ent.enc)])]++l.main.enc
def noL:Lnk:=⟨[],[],[],noE⟩
def zbj:List (ByteArray × ByteArray)->Nat->List ByteArray->List Mdl->List Dia->(List ByteArray × List Mdl) × List Dia
 |[],_,ns,ms,bad=>((ns,ms),bad)
 |s::l,i,ns,ms,bad=>
  let m:=zba s.2
  zbj l (i+1) (ns++[s.1]) (ms++[m.1]) (if za1 s.1=false then bad++[⟨i,1,1,10⟩]else if 0<=modZ ns s.1 then bad++[⟨i,1,1,8⟩]else if m.2.e≠0 then bad++[⟨i,m.2.line,m.2.col,m.2.e⟩]else bad)
def zbQ(l:List (ByteArray × ByteArray)):(List ByteArray × List Mdl) × List Dia:=
 if 16<l.length then(([],[]),[⟨16,1,1,19⟩])else zbj l 0 [] [] []
def zbz:List Ent->ByteArray->Ent × Bool
 |[],_=>(noE,false)
 |e::l,s=>if e.name=s then(e,true)else zbz l s
def zcb(m:Mdl)(s:ByteArray):Int:=fi (fun d:Dec=>decide (d.name=s)) 0 m.decs
def zg2:Dec:=⟨bs [],false,[],bs [],[],noN,0,0⟩
def impN(M:Mdl)(m i:Int)(x:Imp):List ByteArray->List Ent->List Dia->List Ent × List Dia
 |[],sc,bad=>(sc,bad)
 |s::l,sc,bad=>
  if zcb M s<0\/(M.decs.getD (zcb M s).toNat zg2).exp=false then impN M m i x l sc (bad++[⟨i,x.line,x.col,12⟩])
  else if(zbz sc s).2=true then impN M m i x l sc (bad++[⟨i,x.line,x.col,8⟩])
  else impN M m i x l (sc++[⟨s,m,zcb M s⟩]) bad
def zbB(ns:List ByteArray)(ms:List Mdl)(i:Int)(x:Imp)(sc:List Ent):List Ent × List Dia:=
 if modZ ns x.from_<0 then(sc,[⟨i,x.line,x.col,11⟩])else impN (ms.getD (modZ ns x.from_).toNat noM) (modZ ns x.from_) i x x.names sc []
def ze6(ns:List ByteArray)(ms:List Mdl)(i:Int):List Imp->List Ent->List Dia->List Ent × List Dia
 |[],sc,bad=>(sc,bad)
 |x::l,sc,bad=>ze6 ns ms i l (zbB ns ms i x sc).1 (bad++(zbB ns ms i x sc).2)
def zeA(i:Int):List Dec->Nat->List Ent->List Dia->List Ent × List Dia
 |[],_,sc,bad=>(sc,bad)
 |d::l,k,sc,bad=>if(zbz sc d.name).2=true then zeA i l (k+1) sc (bad++[⟨i,d.line,d.col,8⟩])else zeA i l (k+1) (sc++[⟨d.name,i,k⟩]) bad
def zbA(ns:List ByteArray)(ms:List Mdl):List Mdl->Nat->List (List Ent)->List Dia->List (List Ent) × List Dia
 |[],_,all,bad=>(all,bad)
 |m::l,i,all,bad=>
  let a:=ze6 ns ms i m.imps [] bad
  let b:=zeA i m.decs 0 a.1 a.2
  zbA ns ms l (i+1) (all++[b.1]) b.2
def ze7(ns:List ByteArray):List Imp->List Bool->List Bool
 |[],seen=>seen
 |x::l,seen=>ze7 ns l (if 0<=modZ ns x.from_ then seen.set (modZ ns x.from_).toNat true else seen)
def zfR(ns:List ByteArray):List Mdl->Nat->List Bool->List Bool
 |[],_,seen=>seen
 |m::l,i,seen=>zfR ns l (i+1) (if seen.getD i false=true then ze7 ns m.imps seen else seen)
def zm8(ns:List ByteArray)(ms:List Mdl):Nat->List Bool->List Bool
 |0,seen=>seen
 |n+1,seen=>zm8 ns ms n (zfR ns ms 0 seen)
def zeV(ns:List ByteArray)(ms:List Mdl)(f t:Nat):Bool:=(zm8 ns ms ms.length ((List.replicate ms.length false).set f true)).getD t false
def zdV(ns:List ByteArray)(ms:List Mdl)(i:Nat):List Imp->List Dia->List Dia
 |[],bad=>bad
 |x::l,bad=>zdV ns ms i l (if 0<=modZ ns x.from_/\zeV ns ms (modZ ns x.from_).toNat i=true then bad++[⟨i,x.line,x.col,13⟩]else bad)
def zdW(ns:List ByteArray)(ms:List Mdl):List Mdl->Nat->List Dia->List Dia
 |[],_,bad=>bad
 |m::l,i,bad=>zdW ns ms l (i+1) (zdV ns ms i m.imps bad)
abbrev zcR:=bs [109,97,105,110]
def zeB(l:List (ByteArray × ByteArray)):Lnk × List Dia:=
 let f:=zbQ l
 if 0<f.2.length then(noL,f.2)else
 let s:=zbA f.1.1 f.1.2 f.1.2 0 [] []
 if 0<s.2.length then(noL,s.2)else
 let t:=zdW f.1.1 f.1.2 f.1.2 0 []
 if 0<t.length then(noL,t)else
 let i:=modZ f.1.1 zcR
 if i<0 then(noL,[⟨0,1,1,14⟩])else
 let k:=zcb (f.1.2.getD i.toNat noM) zcR
 if k<0 then(noL,[⟨i,1,1,14⟩])else
 let d:=(f.1.2.getD i.toNat noM).decs.getD k.toNat zg2
 if 0<d.vars.length then(noL,[⟨i,d.line,d.col,14⟩])else
 (⟨f.1.1,f.1.2,s.1,⟨zcR,i,k⟩⟩,[])
def zeC:List ByteArray->List Typ->ByteArray->Option Typ
 |v::vs,t::ts,s=>if v=s then some t else zeC vs ts s
 |_,_,_=>none
mutual
def zb1(vars:List ByteArray)(wth:List Typ):Typ->Typ × Bool
 | .mk k n s l=>
  if k=8 then(if 0<s.length\/0<l.length then(.mk k n s l,false)else match zeC vars wth n with
   |some t=>(t,true)
   |none=>(.mk k n s l,false))
  else if(zdk vars wth l).2=true then(.mk k n s (zdk vars wth l).1,true)else(.mk k n s l,false)
def zdk(vars:List ByteArray)(wth:List Typ):List Typ->List Typ × Bool
 |[]=>([],true)
 |t::l=>if(zb1 vars wth t).2=true then((zb1 vars wth t).1::(zdk vars wth l).1,(zdk vars wth l).2)else([],false)
end
def zaU(t:Typ)(vars:List ByteArray)(wth:List Typ):Typ × Int:=
 if vars.length≠wth.length then(noT,1)else if 200<za0 t 201\/16<za4 17 t then(noT,9)
 else if(zb1 vars wth t).2=true then zaS (zb1 vars wth t).1 else(noT,9)
def zm9:List (ByteArray × Typ)->List Typ->List ByteArray->List Typ->Int
 |v::vs,t::ts,names,had=>
  if isNR t=false then 18
  else if v.2.kind≠0/\((zaU v.2 names had).2≠0\/SubR t (zaU v.2 names had).1=false)then 18
  else zm9 vs ts (names++[v.1]) (had++[t])
 |_,_,_,_=>0
def zkE(vars:List (ByteArray × Typ))(l:List Typ):Int:=if vars.length≠l.length then 18 else zm9 vars l [] []
structure Ist where
 module:Int
 decl:Int
 types:List Typ
def Ist.enc(x:Ist):List D:=[.int .i64 x.module,.int .i64 x.decl,.sl false 4 (x.types.map Typ.enc)]
def zfS(a b:Ist):Bool:=decide (a.module=b.module)&&(decide (a.decl=b.decl)&&eqF za5 a.types b.types)
def addR(most:Int)(L:List Ist)(x:Ist):(Int × Int) × List Ist:=
 if(x.types.all isNR)=false then((0,9),L)
 else if 0<=fi (fun y=>zfS y x) 0 L then((fi (fun y=>zfS y x) 0 L,0),L)
 else if most<=L.length then((0,19),L)else((L.length,0),L++[x])
end Go.Gr
namespace Go.Gr
open Go.Abs Go.Proofs
inductive Cor where
  |mk (kind n:Int) (text:ByteArray) (ints:List Int) (names:List ByteArray) (types:List Typ) (cos:List Coe) (kids:List Cor)
mutual
def Cor.enc:Cor->List D
  |.mk k n t is ns ts cs ks=>[.int .i64 k,.int .i64 n,.str t,.sl false 1 (encI is),.sl false 1 (encS ns),.sl false 4 (ts.map Typ.enc),.sl false 5 (cs.map Coe.enc),.sl false 8 (Cor.encs ks)]
def Cor.encs:List Cor->List (List D)
  |[]=>[]
  |c::l=>Cor.enc c::Cor.encs l
end
theorem Cor.encs_map(l:List Cor):Cor.encs l=l.map Cor.enc:=by
  induction l with
  |nil=>rfl
  |cons n l ih=>simp[Cor.encs,ih]
def Cor.kind:Cor->Int|.mk k _ _ _ _ _ _ _=>k
def Cor.n:Cor->Int|.mk _ n _ _ _ _ _ _=>n
def Cor.text:Cor->ByteArray|.mk _ _ t _ _ _ _ _=>t
def Cor.ints:Cor->List Int|.mk _ _ _ i _ _ _ _=>i
def Cor.names:Cor->List ByteArray|.mk _ _ _ _ n _ _ _=>n
def Cor.types:Cor->List Typ|.mk _ _ _ _ _ t _ _=>t
def Cor.cos:Cor->List Coe|.mk _ _ _ _ _ _ c _=>c
def Cor.kids:Cor->List Cor|.mk _ _ _ _ _ _ _ l=>l
theorem Cor.enc_eq(t:Cor):t.enc=[.int .i64 t.kind,.int .i64 t.n,.str t.text,.sl false 1 (encI t.ints),.sl false 1 (encS t.names),.sl false 4 (t.types.map Typ.enc),.sl false 5 (t.cos.map Coe.enc),.sl false 8 (t.kids.map Cor.enc)]:=by
  cases t;simp[Cor.enc,Cor.encs_map,Cor.kind,Cor.text,Cor.n,Cor.ints,Cor.cos,Cor.types,Cor.names,Cor.kids]
@[simp] theorem Cor.enc_length(t:Cor):t.enc.length=8:=by rw[t.enc_eq];try rfl
structure Fun where
  name:ByteArray
  type:Typ
  body:Cor
def Fun.enc(f:Fun):List D:=.str f.name::(f.type.enc++f.body.enc)
structure Site where
  module:Int
  line:Int
  col:Int
def Site.enc(s:Site):List D:=[.int .i64 s.module,.int .i64 s.line,.int .i64 s.col]
structure Prg where
  funs:List Fun
  main:Int
  sites:List Site
def Prg.enc(p:Prg):List D:=[.sl false 13 (p.funs.map Fun.enc),.int .i64 p.main,.sl false 3 (p.sites.map Site.enc)]
def noPrg:Prg:=⟨[],0,[]⟩
structure CS where
  tab:List Ist
  funs:List Fun
  main:Int
  sites:List Site
  bad:List Dia
  module:Int
  vars:List ByteArray
  wth:List Typ
  e:Int
  line:Int
  col:Int
abbrev Env:=List (ByteArray × Typ)
abbrev Inf:=Env->CS->(Cor × Typ) × CS
def cK(k:Int)(l:List Cor):Cor:=.mk k 0 (bs []) [] [] [] [] l
def cN(k n:Int):Cor:=.mk k n (bs []) [] [] [] [] []
def cT(k:Int)(t:ByteArray)(l:List Cor):Cor:=.mk k 0 t [] [] [] [] l
def noC:Cor:=cN 0 0
def fnT(a b:Typ):Typ:=.mk 6 (bs []) [] [a,b]
def zaL(ln cl e:Int)(s:CS):CS:=if s.e=0 then {s with e:=e,line:=ln,col:=cl}else s
def zas(t:Typ)(ln cl:Int)(s:CS):Typ × CS:=
  let r:=zaU t s.vars s.wth
  (r.1,if r.2≠0 then zaL ln cl 9 s else s)
def zbf(t:Typ)(ln cl:Int)(s:CS):Typ × CS:=((zaS t).1,if(zaS t).2≠0 then zaL ln cl 9 s else s)
def zaT(x:Cor)(t u:Typ)(ln cl:Int)(s:CS):Cor × CS:=
  if s.e≠0 then(x,s)else(.mk 21 s.sites.length (bs []) [] [] [t,u] [] [x],{s with sites:=s.sites++[⟨s.module,ln,cl⟩]})
def zaA(x:Cor)(t u:Typ)(ln cl:Int)(s:CS):Cor × CS:=
  if s.e≠0 then(x,s)else if SubR t u=true then(x,s)else if zfQ t u=true then zaT x t u ln cl s else(x,zaL ln cl 15 s)
section
variable (L:Lnk)
def decAt(m k:Int):Dec:=(L.mods.getD m.toNat noM).decs.getD k.toNat zg2
def sigR(e:Ent)(l:List Typ):Typ × Bool:=
  let d:=decAt L e.module e.decl
  let a:=zaU (d.types.getD 0 noT) (d.vars.map (·.1)) l
  let b:=zaU (d.types.getD 1 noT) (d.vars.map (·.1)) l
  let t:=zaS (fnT a.1 b.1)
  (t.1,decide (a.2=0)&&(decide (b.2=0)&&decide (t.2=0)))
def zbg (ln cl:Int) (e:Ent) (l:List Typ) (s:CS):(Cor × Typ) × CS:=
  if(sigR L e l).2=false then((noC,noT),zaL ln cl 9 s)else
    let r:=addR 256 s.tab ⟨e.module,e.decl,l⟩
    ((cN 6 r.1.1,(sigR L e l).1),if r.1.2≠0 then zaL ln cl r.1.2 {s with tab:=r.2}else {s with tab:=r.2})
def zbD(env:Env)(x:ByteArray):Int:=match fi (fun b:ByteArray × Typ=>decide (b.1=x)) 0 env.reverse with
  |i=>if i<0 then -1 else env.length-1-i
def zbX(ln cl:Int):List Typ->List Typ->CS->List Typ × CS
  |[],l,s=>(l,s)
  |t::ts,l,s=>if s.e≠0 then(l,s)else zbX ln cl ts (l++[(zas t ln cl s).1]) (zas t ln cl s).2
def zcG (n:Nod) (env:Env) (s:CS):(Cor × Typ) × CS:=
  let k:=zbD env n.text
  let e:=zbz (L.scopes.getD s.module.toNat []) n.text
  if 0<=k/\n.kind=4 then((cN 4 k,(env.getD k.toNat (bs [],noT)).2),s)
  else if k<0/\e.2=false then((noC,noT),zaL n.line n.col 10 s)
  else if 0<=k then((noC,noT),zaL n.line n.col 18 s)
  else
    let d:=decAt L e.1.module e.1.decl
    if decide (0<d.vars.length)≠decide (n.kind=19)then((noC,noT),zaL n.line n.col 18 s)
    else if n.kind=4 then zbg L n.line n.col e.1 [] s
    else
      let r:=zbX n.line n.col n.types [] s
      if r.2.e≠0 then((noC,noT),r.2)
      else if zkE d.vars r.1≠0 then((noC,noT),zaL n.line n.col (zkE d.vars r.1) r.2)
      else zbg L n.line n.col e.1 r.1 r.2
end
def letC (n a:Nod) (ia ib:Inf) (env:Env) (s:CS):(Cor × Typ) × CS:=
  let x:=ia env s
  let y:=if 0<n.types.length/\x.2.e=0 then
      (let u:=zas (n.types.getD 0 noT) n.line n.col x.2
       let z:=zaA x.1.1 x.1.2 u.1 a.line a.col u.2
       ((z.1,u.1),z.2))
    else x
  let z:=ib (env++[(n.text,y.1.2)]) y.2
  ((cK 18 [y.1.1,z.1.1],z.1.2),z.2)
def fnC(n a:Nod)(ia:Inf)(env:Env)(s:CS):(Cor × Typ) × CS:=
  let p:=zas (n.types.getD 0 noT) n.line n.col s
  let q:=if 1<n.types.length/\p.2.e=0 then zas (n.types.getD 1 noT) n.line n.col p.2 else(noT,p.2)
  let x:=ia (env++[(n.text,p.1)]) q.2
  let y:=if 1<n.types.length then(let z:=zaA x.1.1 x.1.2 q.1 a.line a.col x.2;((z.1,q.1),z.2))else x
  let u:=zbf (fnT p.1 y.1.2) n.line n.col y.2
  ((cK 5 [y.1.1],u.1),u.2)
def anyC(u:Typ)(ln cl:Int)(x:(Cor × Typ) × CS):(Cor × Typ) × CS:=
  if x.1.2.kind=0 then(((zaT x.1.1 x.1.2 u ln cl x.2).1,u),(zaT x.1.1 x.1.2 u ln cl x.2).2)else x
def zdv (n b:Nod) (ia ib:Inf) (env:Env) (s:CS):(Cor × Typ) × CS:=
  let x:=anyC (fnT noT noT) n.line n.col (ia env s)
  if x.1.2.kind≠6 then((noC,noT),zaL n.line n.col 16 x.2)else
    let y:=ib env x.2
    let z:=zaA y.1.1 y.1.2 (kid0 x.1.2) b.line b.col y.2
    ((cK 7 [x.1.1,z.1],kid1 x.1.2),z.2)
def dupS:List ByteArray->List ByteArray->Bool
  |_,[]=>false
  |had,n::l=>had.any (fun m=>decide (m=n))||dupS (had++[n]) l
def recC(n:Nod)(ks:Env->CS->(List Cor × List Typ) × CS)(env:Env)(s:CS):(Cor × Typ) × CS:=
  let s1:=if dupS [] n.names=true then zaL n.line n.col 8 s else s
  let r:=ks env s1
  let u:=zbf (.mk 5 (bs []) n.names r.1.2) n.line n.col r.2
  ((.mk 8 0 (bs []) [] n.names [] [] r.1.1,u.1),u.2)
def selC(n:Nod)(ia:Inf)(env:Env)(s:CS):(Cor × Typ) × CS:=
  let x:=ia env s
  let f:=zaz x.1.2 n.text
  let y:=if x.1.2.kind=0 then zaT x.1.1 x.1.2 (.mk 5 (bs []) [n.text] [noT]) n.line n.col x.2 else(x.1.1,x.2)
  ((cT 9 n.text [y.1],f.1),if f.2=true\/x.1.2.kind=0 then y.2 else zaL n.line n.col 17 y.2)
def zbL(x:ByteArray):List ByteArray->List Typ->List (ByteArray × Typ)
  |n::ns,k::ks=>if n=x then zbL x ns ks else(n,k)::zbL x ns ks
  |_,_=>[]
def zdw (n:Nod) (ia ib:Inf) (env:Env) (s:CS):(Cor × Typ) × CS:=
  let x:=anyC (bT 5) n.line n.col (ia env s)
  if x.1.2.kind≠5 then((noC,noT),zaL n.line n.col 17 x.2)else
    let y:=ib env x.2
    let r:=(n.text,y.1.2)::zbL n.text x.1.2.names x.1.2.kids
    let u:=zbf (.mk 5 (bs []) (r.map (·.1)) (r.map (·.2))) n.line n.col y.2
    ((cT 10 n.text [x.1.1,y.1.1],u.1),u.2)
def zaO (q:Nod) (env:Env):Env × Env:=
  if q.kind=12/\(q.kids.getD 0 noN).kind=4/\0<=zbD env (q.kids.getD 0 noN).text then
    let k:=(zbD env (q.kids.getD 0 noN).text).toNat
    let b:=env.getD k (bs [],noT)
    (env.set k (b.1,(zbI b.2 q.n).1),env.set k (b.1,(zbI b.2 q.n).2))
  else(env,env)
def ifC(q a b:Nod)(iq ia ib:Inf)(env:Env)(s:CS):(Cor × Typ) × CS:=
  let x:=iq env s
  let x':=zaA x.1.1 x.1.2 (bT 2) q.line q.col x.2
  let y:=ia (zaO q env).1 x'.2
  let z:=ib (zaO q env).2 y.2
  let j:=zeu y.1.2 z.1.2
  let y':=zaA y.1.1 y.1.2 j a.line a.col z.2
  let z':=zaA z.1.1 z.1.2 j b.line b.col y'.2
  ((cK 11 [x'.1,y'.1,z'.1],j),z'.2)
def asC (n:Nod) (ia:Inf) (env:Env) (s:CS):(Cor × Typ) × CS:=
  let x:=ia env s
  if x.2.e≠0 then x else
    let u:=zas (n.types.getD 0 noT) n.line n.col x.2
    if u.2.e≠0\/SubR x.1.2 u.1=true then((x.1.1,u.1),u.2)else
      let y:=if x.1.2.kind≠0 then zaT x.1.1 x.1.2 noT n.line n.col u.2 else(x.1.1,u.2)
      if u.1.kind=0 then((y.1,u.1),y.2)
      else if x.1.2.kind=0 then(((zaT y.1 x.1.2 u.1 n.line n.col y.2).1,u.1),(zaT y.1 x.1.2 u.1 n.line n.col y.2).2)
      else((.mk 21 y.1.n (bs []) [] [] [noT,u.1] [] [y.1],u.1),y.2)
def zaZ(n:Nod)(i:Inf)(t:Typ)(env:Env)(s:CS):Cor × CS:=
  let x:=i env s
  zaA x.1.1 x.1.2 t n.line n.col x.2
def zca:List ByteArray:=[bs [43],bs [45],bs [42],bs [47],bs [37],bs [60,60],bs [62,62],bs [38],bs [94],bs [60],bs [60,61]]
def opZ(s:ByteArray):Int:=max 0 (fi (fun x=>decide (x=s)) 0 zca)
def opC (n a b:Nod) (ia ib:Inf) (env:Env) (s:CS):(Cor × Typ) × CS:=
  if n.text=bs [111,114]then
    let x:=zaZ a ia (bT 2) env s
    let y:=zaZ b ib (bT 2) env x.2
    ((cK 11 [x.1,cN 2 1,y.1],bT 2),y.2)
  else if n.text=bs [97,110,100]then
    let x:=zaZ a ia (bT 2) env s
    let y:=zaZ b ib (bT 2) env x.2
    ((cK 11 [x.1,y.1,cN 2 0],bT 2),y.2)
  else if n.text=bs [61,61]then
    let x:=ia env s
    let y:=ib env x.2
    ((cK 14 [x.1.1,y.1.1],bT 2),y.2)
  else if n.text=bs [43,43]then
    let x:=zaZ a ia (bT 4) env s
    let y:=zaZ b ib (bT 4) env x.2
    ((cK 15 [x.1,y.1],bT 4),y.2)
  else
    let x:=zaZ a ia (bT 3) env s
    let y:=zaZ b ib (bT 3) env x.2
    ((.mk 13 (opZ n.text) (bs []) [] [] [] [] [x.1,y.1],if 9<=opZ n.text then bT 2 else bT 3),y.2)
def oneC(n a:Nod)(ia:Inf)(env:Env)(s:CS):(Cor × Typ) × CS:=
  if n.kind=15 then((cK 16 [(zaZ a ia (bT 2) env s).1],bT 2),(zaZ a ia (bT 2) env s).2)
  else if n.kind=16 then((cK 17 [(zaZ a ia (bT 3) env s).1],bT 3),(zaZ a ia (bT 3) env s).2)
  else if n.kind=12 then((.mk 12 n.n (bs []) [] [] [] [] [(ia env s).1.1],bT 2),(ia env s).2)
  else((cK 19 [(ia env s).1.1],bT 1),(ia env s).2)
mutual
def zao (L:Lnk):Nod->Inf
  | .mk k tx nn ln cl ts ns ks=>fun env s=>
    if s.e≠0 then((noC,noT),s)
    else if k=0 then((cN 0 nn,bT 3),s)
    else if k=1 then((cT 1 tx [],bT 4),s)
    else if k=2 then((cN 2 nn,bT 2),s)
    else if k=3 then((cN 3 0,bT 1),s)
    else if k=18 then((cN 20 0,bT 3),s)
    else if k=4\/k=19 then zcG L (.mk k tx nn ln cl ts ns ks) env s
    else if k=8 then recC (.mk k tx nn ln cl ts ns ks) (zaN L ks) env s
    else match ks with
      |[]=>((noC,noT),s)
      | a::[]=>
        if k=6 then fnC (.mk k tx nn ln cl ts ns ks) a (zao L a) env s
        else if k=9 then selC (.mk k tx nn ln cl ts ns ks) (zao L a) env s
        else if k=13 then asC (.mk k tx nn ln cl ts ns ks) (zao L a) env s
        else oneC (.mk k tx nn ln cl ts ns ks) a (zao L a) env s
      | a::b::[]=>
        if k=5 then letC (.mk k tx nn ln cl ts ns ks) a (zao L a) (zao L b) env s
        else if k=7 then zdv (.mk k tx nn ln cl ts ns ks) b (zao L a) (zao L b) env s
        else if k=10 then zdw (.mk k tx nn ln cl ts ns ks) (zao L a) (zao L b) env s
        else opC (.mk k tx nn ln cl ts ns ks) a b (zao L a) (zao L b) env s
      |a::b::c::_=>ifC a b c (zao L a) (zao L b) (zao L c) env s
def zaN (L:Lnk):List Nod->Env->CS->(List Cor × List Typ) × CS
  |[]=>fun env s=>(([],[]),s)
  | n::l=>fun env s=>
    let x:=zao L n env s
    let r:=zaN L l env x.2
    ((x.1.1::r.1.1,x.1.2::r.1.2),r.2)
end
def zcl:List Typ->Nat->ByteArray->ByteArray
  |[],_,s=>s
  |t::l,i,s=>zcl l (i+1) (s++(if i=0 then bs [91]else bs [44,32])++zd1 t)
def funC(L:Lnk)(x:Ist)(s0:CS):CS:=
  let d:=decAt L x.module x.decl
  let s:CS:={s0 with module:=x.module,vars:=d.vars.map (·.1),wth:=x.types,e:=0}
  let a:=zas (d.types.getD 0 noT) d.line d.col s
  let b:=zas (d.types.getD 1 noT) d.line d.col a.2
  let t:Typ × CS:=if b.2.e=0 then zbf (fnT a.1 b.1) d.line d.col b.2 else(fnT a.1 b.1,b.2)
  let s2:CS:=if x.module=L.main.module/\x.decl=L.main.decl/\zfQ (bT 1) a.1=false then zaL d.line d.col 14 t.2 else t.2
  let y:=zao L d.body [(d.param,a.1)] s2
  let z:=zaA y.1.1 y.1.2 b.1 d.body.line d.body.col y.2
  let nm:=zcl x.types 0 (L.names.getD x.module.toNat (bs [])++bs [46]++d.name)
  let nm:=if 0<x.types.length then nm++bs [93]else nm
  let s3:CS:={z.2 with funs:=z.2.funs++[⟨nm,t.1,z.1⟩]}
  if s3.e≠0 then {s3 with bad:=s3.bad++[⟨x.module,s3.line,s3.col,s3.e⟩]}else s3
def zcz (L:Lnk) (i:Nat):List Dec->Nat->CS->CS × List Dia
  |[],_,s=>(s,[])
  | d ::l,k,s=>
    if 0<d.vars.length then zcz L i l (k+1) s else
      let r:=addR 256 s.tab ⟨i,k,[]⟩
      if r.1.2≠0 then({s with tab:=r.2},[⟨i,d.line,d.col,r.1.2⟩])
      else zcz L i l (k+1) {s with tab:=r.2,main:=if(i:Int)=L.main.module/\(k:Int)=L.main.decl then r.1.1 else s.main}
def seedM(L:Lnk):List Mdl->Nat->CS->CS × List Dia
  |[],_,s=>(s,[])
  |m::l,i,s=>if 0<(zcz L i m.decs 0 s).2.length then zcz L i m.decs 0 s else seedM L l (i+1) (zcz L i m.decs 0 s).1
def funsC(L:Lnk):Nat->Nat->CS->CS
  |0,_,s=>s
  |n+1,i,s=>if i<s.tab.length then funsC L n (i+1) (funC L (s.tab.getD i ⟨0,0,[]⟩) s)else s
def cs0:CS:=⟨[],[],0,[],[],0,[],[],0,0,0⟩
def checkP (L:Lnk):Prg × List Dia:=
  let a:=seedM L L.mods 0 cs0
  if 0<a.2.length then(noPrg,a.2)else
    let s:=funsC L 257 0 a.1
    if 0<s.bad.length then(noPrg,s.bad)else(⟨s.funs,s.main,s.sites⟩,[])
def fewL:List (ByteArray × ByteArray)->Int->Bool
  |[],_=>true
  |s::l,n=>if 70000-n<s.2.size\/1000<s.1.size then false else fewL l (n+s.2.size)
def sumL:List (ByteArray × ByteArray)->Int
  |[]=>0
  |s::l=>s.2.size+sumL l
def programP (l:List (ByteArray × ByteArray)):Prg × Bool:=
  if 20<l.length\/fewL l 0=false\/5000<sumL l then(noPrg,false)else
    let x:=zeB l
    if 0<x.2.length then(noPrg,false)else
      let r:=checkP x.1
      (r.1,decide (r.2.length=0))
end Go.Gr
namespace Go.Gr
open Go.Abs Go.Proofs
def ziZ:MC:=(fun x (_:x=gC tt [] [] [] (gLb 0 (gB Tryz.f145)))=>x) _ (by dsimp[Tryz.f145])
def zkR:MC:=(fun x (_:x=gC tt [] [] [(0,ziZ)] (gB Tryz.f145))=>x) _ (by dsimp[Tryz.f145])
theorem ztc:WT Pg 145 31 zkR [.tmp 4]:=wT zab Tryz.func145 (by kernel_rfl)
def mc_g03_Size:MC:=(fun x (_:x=gC tt [] [] [] (gB Tryz.f113))=>x) _ (by dsimp[Tryz.f113])
theorem ztd:WT Pg 113 5 mc_g03_Size [.tmp 2]:=wT zab Tryz.func113 (by kernel_rfl)
def mc_g03_Height:MC:=(fun x (_:x=gC tt [] [] [] (gB Tryz.f112))=>x) _ (by dsimp[Tryz.f112])
theorem zpE:WT Pg 112 5 mc_g03_Height [.tmp 2]:=wT zab Tryz.func112 (by kernel_rfl)
def lp_g03_high_0:MC:=(fun x (_:x=gC tt [] [] [] (gLb 0 (gB Tryz.f144)))=>x) _ (by dsimp[Tryz.f144])
def zeY:MC:=(fun x (_:x=gC tt [] [] [(0,lp_g03_high_0)] (gB Tryz.f144))=>x) _ (by dsimp[Tryz.f144])
theorem zh7:WT Pg 144 31 zeY [.tmp 4]:=wT zab Tryz.func144 (by kernel_rfl)
def lp_g03_Same_0:MC:=(fun x (_:x=gC tt [] [(6,[0,1,0,7,15,0,32,0,224,480,1023])] [] (gLb 0 (gB Tryz.f74)))=>x) _ (by dsimp[Tryz.f74])
def zfo:MC:=(fun x (_:x=gC tt [] [(11,[0,1,0,7,15,0,32,0,224,480,1023,2047])] [] (gLb 2 (gB Tryz.f74)))=>x) _ (by dsimp[Tryz.f74])
def zkS:MC:=(fun x (_:x=gC tt [] [] [(0,lp_g03_Same_0),(2,zfo)] (gB Tryz.f74))=>x) _ (by dsimp[Tryz.f74])
theorem zte:WT Pg 74 76 zkS [.tmp 4]:=wT zab Tryz.func74 (by kernel_rfl)
def mc_g03_Norm:MC:=(fun x (_:x=gC tt [] [] [] (gB Tryz.f73))=>x) _ (by dsimp[Tryz.f73])
theorem ztf:WT Pg 73 24 mc_g03_Norm [.cell 2 true 4,.tmp 3]:=wT zab Tryz.func73 (by kernel_rfl)
def lp_g03_norm_1:MC:=(fun x (_:x=gC tt [] [] [] (gLb 1 (gB Tryz.f114)))=>x) _ (by dsimp[Tryz.f114])
def zkT:MC:=(fun x (_:x=gC tt [(4,50),(4,64),(6,1)] [] [(1,lp_g03_norm_1)] (gB Tryz.f114))=>x) _ (by dsimp[Tryz.f114])
theorem ztg:WT Pg 114 68 zkT [.cell 2 true 4,.tmp 3]:=wT zab Tryz.func114 (by kernel_rfl)
def lp_g03_record_2:MC:=(fun x (_:x=gC tt [] [(9,[0,0,2,6,15,31,63,127,63,511,1023,63,63,6207,14399,32767,65535])] [] (gLb 2 (gB Tryz.f146)))=>x) _ (by dsimp[Tryz.f146])
def zgI:MC:=(fun x (_:x=gC tt [] [(11,[0,1,3,7,7,23,55,127,255,511,1023,511,4095,8191,511,511,49663,115199,262143,524287,1048575])] [(2,lp_g03_record_2)] (gLb 0 (gB Tryz.f146)))=>x) _ (by dsimp[Tryz.f146])
def zi0:MC:=(fun x (_:x=gC tt [(6,0)] [] [(0,zgI)] (gB Tryz.f146))=>x) _ (by dsimp[Tryz.f146])
theorem zpF:WT Pg 146 117 zi0 [.cell 4 true 4,.tmp 5]:=wT zab Tryz.func146 (by kernel_rfl)
def lp_g03_union_0:MC:=(fun x (_:x=gC tt [] [] [] (gLb 0 (gB Tryz.f147)))=>x) _ (by dsimp[Tryz.f147])
def zeJ:MC:=(fun x (_:x=gC tt [] [(20,[0,1,0,0,12,28,60,127,255,511]),(22,[0,0,3,7,0,16,0,64,192,448,1008,2032,4095,8191])] [] (gLb 4 (gB Tryz.f147)))=>x) _ (by dsimp[Tryz.f147])
def zhj:MC:=(fun x (_:x=gC tt [] [] [(4,zeJ)] (gLb 2 (gB Tryz.f147)))=>x) _ (by dsimp[Tryz.f147])
def zjf:MC:=(fun x (_:x=gC tt [(6,0),(6,2)] [(27,[0,0,2,6,14,1,63])] [(0,lp_g03_union_0),(2,zhj)] (gB Tryz.f147))=>x) _ (by dsimp[Tryz.f147])
theorem zrw:WT Pg 147 102 zjf [.cell 2 true 4,.tmp 3]:=wT zab Tryz.func147 (by kernel_rfl)
def mc_g03_Tag:MC:=(fun x (_:x=gC tt [] [] [] (gB Tryz.f125))=>x) _ (by dsimp[Tryz.f125])
theorem zuR:WT Pg 125 15 mc_g03_Tag [.tmp 2]:=wT zab Tryz.func125 (by kernel_rfl)
def mc_g03_Show:MC:=(fun x (_:x=gC tt [] [] [] (gB Tryz.f58))=>x) _ (by dsimp[Tryz.f58])
theorem zth:WT Pg 58 22 mc_g03_Show [.tmp 2]:=wT zab Tryz.func58 (by kernel_rfl)
def lp_g03_show_1:MC:=(fun x (_:x=gC tt [] [(19,[0,0,2,0,14,30,63,127,0,256,0,1792,3840,7936,16383,32767])] [] (gLb 1 (gB Tryz.f91)))=>x) _ (by dsimp[Tryz.f91])
def zfp:MC:=(fun x (_:x=gC tt [] [] [] (gLb 3 (gB Tryz.f91)))=>x) _ (by dsimp[Tryz.f91])
def zkU:MC:=(fun x (_:x=gC tt [] [(22,[0,1,3,7,15,31,0,64,192,448,991,2047,4095])] [(1,lp_g03_show_1),(3,zfp)] (gB Tryz.f91))=>x) _ (by dsimp[Tryz.f91])
theorem zti:WT Pg 91 90 zkU [.tmp 4]:=wT zab Tryz.func91 (by kernel_rfl)
def mc_g06_Normal:MC:=(fun x (_:x=gC tt [] [] [] (gB Tryz.f48))=>x) _ (by dsimp[Tryz.f48])
theorem zpG:WT Pg 48 19 mc_g06_Normal [.tmp 2]:=wT zab Tryz.func48 (by kernel_rfl)
def lp_g06_Parts_0:MC:=(fun x (_:x=gC tt [] [] [] (gLb 0 (gB Tryz.f92)))=>x) _ (by dsimp[Tryz.f92])
def zhk:MC:=(fun x (_:x=gC tt [] [(17,[0,0,2,0,14,30,62,0,128,0,896,1920,4094,8190,16383,32767])] [] (gLb 2 (gB Tryz.f92)))=>x) _ (by dsimp[Tryz.f92])
def zgb:MC:=(fun x (_:x=gC tt [(6,0),(6,2)] [(13,[0,1,0,7,15,31])] [(0,lp_g06_Parts_0),(2,zhk)] (gB Tryz.f92))=>x) _ (by dsimp[Tryz.f92])
theorem zkV:WT Pg 92 65 zgb [.tmp 2]:=wT zab Tryz.func92 (by kernel_rfl)
def lp_g06_part_0:MC:=(fun x (_:x=gC tt [] [] [] (gLb 0 (gB Tryz.f116)))=>x) _ (by dsimp[Tryz.f116])
def zkW:MC:=(fun x (_:x=gC tt [] [] [(0,lp_g06_part_0)] (gB Tryz.f116))=>x) _ (by dsimp[Tryz.f116])
theorem ztj:WT Pg 116 25 zkW [.cell 4 true 6,.tmp 5]:=wT zab Tryz.func116 (by kernel_rfl)
def lp_g06_Field_0:MC:=(fun x (_:x=gC tt [] [] [] (gLb 0 (gB Tryz.f117)))=>x) _ (by dsimp[Tryz.f117])
def zjg:MC:=(fun x (_:x=gC tt [] [] [(0,lp_g06_Field_0)] (gB Tryz.f117))=>x) _ (by dsimp[Tryz.f117])
theorem zrx:WT Pg 117 27 zjg [.cell 4 true 4,.tmp 5]:=wT zab Tryz.func117 (by kernel_rfl)
def lp_g06_below_2:MC:=(fun x (_:x=gC tt [] [(15,[0,0,2,6,0,30,62,127,255,511,511,0,3071,8191]),(16,[0,1,3,7,7,23,55,7,247,503,7,2047,4095,8191])] [] (gLb 2 (gB Tryz.f77)))=>x) _ (by dsimp[Tryz.f77])
def zhl:MC:=(fun x (_:x=gC tt [] [(18,[0,1,3,7,15,31,63,127,255,15,527,1551,3599,15,16383,32767,65535,131071,262143,524287,1048575,131071,2228223,6422527,14811135,31588351,131071,134217727,268435455,536870911,1073741823])] [(2,lp_g06_below_2)] (gLb 0 (gB Tryz.f77)))=>x) _ (by dsimp[Tryz.f77])
def zjh:MC:=(fun x (_:x=gC tt [] [] [(0,zhl)] (gB Tryz.f77))=>x) _ (by dsimp[Tryz.f77])
theorem zry:WT Pg 77 123 zjh [.tmp 6]:=wT zab Tryz.func77 (by kernel_rfl)
def mc_g06_Sub:MC:=(fun x (_:x=gC tt [] [] [] (gB Tryz.f89))=>x) _ (by dsimp[Tryz.f89])
theorem zuS:WT Pg 89 20 mc_g06_Sub [.tmp 4]:=wT zab Tryz.func89 (by kernel_rfl)
def mc_g06_Fits:MC:=(fun x (_:x=gC tt [] [] [] (gB Tryz.f53))=>x) _ (by dsimp[Tryz.f53])
theorem ztk:WT Pg 53 20 mc_g06_Fits [.tmp 4]:=wT zab Tryz.func53 (by kernel_rfl)
def lp_g06_Join_0:MC:=(fun x (_:x=gC tt [] [] [] (gLb 0 (gB Tryz.f123)))=>x) _ (by dsimp[Tryz.f123])
def zkX:MC:=(fun x (_:x=gC tt [(4,128),(6,0)] [] [(0,lp_g06_Join_0)] (gB Tryz.f123))=>x) _ (by dsimp[Tryz.f123])
theorem ztl:WT Pg 123 136 zkX [.cell 4 true 4]:=wT zab Tryz.func123 (by kernel_rfl)
def lp_g06_Narrow_0:MC:=(fun x (_:x=gC tt [] [(18,[0,1,0,4,0,28,60,124,255,511,1023])] [] (gLb 0 (gB Tryz.f122)))=>x) _ (by dsimp[Tryz.f122])
def zi1:MC:=(fun x (_:x=gC tt [(6,0)] [(3,[0,0,1,7]),(6,[0,0,1,7]),(7,[0,1,3,0,7,31]),(10,[0,0,1,7]),(12,[0,0,1,7]),(20,[0,1,0,4,12,28,3,127]),(21,[0,1,0,3,15])] [(0,lp_g06_Narrow_0)] (gB Tryz.f122))=>x) _ (by dsimp[Tryz.f122])
theorem zpH:WT Pg 122 91 zi1 [.cell 4 true 4,.cell 5 true 4]:=wT zab Tryz.func122 (by kernel_rfl)
def lp_g07_module_0:MC:=(fun x (_:x=gC tt [] [] [] (gLb 0 (gB Tryz.f26)))=>x) _ (by dsimp[Tryz.f26])
def zi2:MC:=(fun x (_:x=gC tt [] [] [(0,lp_g07_module_0)] (gB Tryz.f26))=>x) _ (by dsimp[Tryz.f26])
theorem zpI:WT Pg 26 19 zi2 [.tmp 4]:=wT zab Tryz.func26 (by kernel_rfl)
def lp_g07_first_0:MC:=(fun x (_:x=gC tt [(3,46)] [(10,[0,1,0,0,12,28,60,127,255]),(11,[0,1,0,0,12,28,60,124,255,511,1023])] [] (gLb 0 (gB Tryz.f23)))=>x) _ (by dsimp[Tryz.f23])
def zji:MC:=(fun x (_:x=gC tt [(6,0)] [] [(0,lp_g07_first_0)] (gB Tryz.f23))=>x) _ (by dsimp[Tryz.f23])
theorem zrz:WT Pg 23 91 zji [.cell 2 true 6,.tmp 3]:=wT zab Tryz.func23 (by kernel_rfl)
def lp_g07_Find_0:MC:=(fun x (_:x=gC tt [] [] [] (gLb 0 (gB Tryz.f46)))=>x) _ (by dsimp[Tryz.f46])
def zkY:MC:=(fun x (_:x=gC tt [] [] [(0,lp_g07_Find_0)] (gB Tryz.f46))=>x) _ (by dsimp[Tryz.f46])
theorem ztm:WT Pg 46 25 zkY [.cell 4 true 3,.tmp 5]:=wT zab Tryz.func46 (by kernel_rfl)
def lp_g07_decl_0:MC:=(fun x (_:x=gC tt [] [] [] (gLb 0 (gB Tryz.f27)))=>x) _ (by dsimp[Tryz.f27])
def zkZ:MC:=(fun x (_:x=gC tt [] [] [(0,lp_g07_decl_0)] (gB Tryz.f27))=>x) _ (by dsimp[Tryz.f27])
theorem ztn:WT Pg 27 22 zkZ [.tmp 4]:=wT zab Tryz.func27 (by kernel_rfl)
def lp_g07_imported_0:MC:=(fun x (_:x=gC tt [(3,58)] [(9,[0,1,0,7,15,0,32,0,224,480,1023,2047])] [] (gLb 0 (gB Tryz.f45)))=>x) _ (by dsimp[Tryz.f45])
def zgJ:MC:=(fun x (_:x=gC tt [(6,0),(7,1)] [(5,[0,0,2,1,15])] [(0,lp_g07_imported_0)] (gB Tryz.f45))=>x) _ (by dsimp[Tryz.f45])
theorem zl8:WM Pg 45 100 zgJ [.tmp 8,.tmp 9]:=wM zab Tryz.func45 (by kernel_rfl)
def lp_g07_second_2:MC:=(fun x (_:x=gC tt [(9,45)] [(11,[0,0,0,4,0,28,60,0,255,511,1023,1023,2047,8191])] [] (gLb 2 (gB Tryz.f24)))=>x) _ (by dsimp[Tryz.f24])
def zem:MC:=(fun x (_:x=gC tt [(3,65)] [(19,[0,0,0,4,0,28,60,124,0,256,0,1792,3840,7936,16382,32766,65535,131071])] [] (gLb 4 (gB Tryz.f24)))=>x) _ (by dsimp[Tryz.f24])
def zgK:MC:=(fun x (_:x=gC tt [(4,98),(6,2)] [] [(2,lp_g07_second_2),(4,zem)] (gLb 0 (gB Tryz.f24)))=>x) _ (by dsimp[Tryz.f24])
def zi3:MC:=(fun x (_:x=gC tt [(6,0)] [] [(0,zgK)] (gB Tryz.f24))=>x) _ (by dsimp[Tryz.f24])
theorem zpJ:WT Pg 24 104 zi3 [.tmp 2,.tmp 3]:=wT zab Tryz.func24 (by kernel_rfl)
def lp_g07_reached_4:MC:=(fun x (_:x=gC tt [] [(13,[0,1,0,0,12,28,60,127,255])] [] (gLb 4 (gB Tryz.f47)))=>x) _ (by dsimp[Tryz.f47])
def zd4:MC:=(fun x (_:x=gC tt [] [] [(4,lp_g07_reached_4)] (gLb 2 (gB Tryz.f47)))=>x) _ (by dsimp[Tryz.f47])
def zgc:MC:=(fun x (_:x=gC tt [] [] [(2,zd4)] (gLb 0 (gB Tryz.f47)))=>x) _ (by dsimp[Tryz.f47])
def zhm:MC:=(fun x (_:x=gC tt [(1,16)] [] [(0,zgc)] (gB Tryz.f47))=>x) _ (by dsimp[Tryz.f47])
theorem zo9:WT Pg 47 69 zhm [.tmp 6]:=wT zab Tryz.func47 (by kernel_rfl)
def lp_g07_third_2:MC:=(fun x (_:x=gC tt [] [(9,[0,1,0,0,12,28,60,127,255]),(12,[0,0,0,0,12,28,60,0,0,384,896,1920,4094,8190,16383,32767])] [] (gLb 2 (gB Tryz.f25)))=>x) _ (by dsimp[Tryz.f25])
def zhn:MC:=(fun x (_:x=gC tt [] [] [(2,lp_g07_third_2)] (gLb 0 (gB Tryz.f25)))=>x) _ (by dsimp[Tryz.f25])
def zjj:MC:=(fun x (_:x=gC tt [(6,0)] [] [(0,zhn)] (gB Tryz.f25))=>x) _ (by dsimp[Tryz.f25])
theorem zrA:WT Pg 25 61 zjj [.tmp 2]:=wT zab Tryz.func25 (by kernel_rfl)
def mc_g07_Link:MC:=(fun x (_:x=gC tt [] [(20,[0,0,0,4,0,16,62,126,1,511])] [] (gB Tryz.f16))=>x) _ (by dsimp[Tryz.f16])
theorem zto:WT Pg 16 88 mc_g07_Link [.cell 2 true 6,.tmp 3]:=wT zab Tryz.func16 (by kernel_rfl)
end Go.Gr
namespace Go.Gr
open Go.Abs Go.Proofs
theorem zhJ{t:Typ}(o:DV.ok (.agg t.enc)):t.names.length<=zah/\t.kids.length<=zah:=by
 rw[Typ.enc_eq]at o
 simp only[DV.ok,D.okL,D.ok,zdQ,List.length_map]at o
 exact⟨o.2.2.1.1,o.2.2.2.1.1⟩
@[simp] theorem Typ.enc_g1(t:Typ)(h:1<t.enc.length):t.enc[1]=.str t.name:=by have:=t.enc_1;rw[List.getElem?_eq_getElem h]at this;exact Option.some.inj this
mutual
theorem zit:∀(t:Typ) (m:Int),1<=za0 t m/\za0 t m<=max 1 m
 |.mk _ _ _ l,m=>by have:=zgT l m 1 (by omega);rw[za0];omega
theorem zgT:∀(l:List Typ) (m n:Int),1<=n->n<=za8 l m n/\za8 l m n<=max n m
 |[],m,n,h=>by rw[za8];omega
 | t::l,m,n,h=>by
  rw[za8]
  split
  ·have h1:=zit t (m-n)
   have h2:=zgT l m (n+za0 t (m-n)) (by omega)
   omega
  ·omega
end
theorem zrR{l:List Typ}{m n:Int}(h:¬n<m):za8 l m n=n:=by
 cases l with
 |nil=>rw[za8]
 |cons d l=>rw[za8,if_neg h]
theorem zxC(t:Typ)(ih:∀e,e∈t.kids->∀m:Int,1<=m->m<=1000->PCall Pg 145 [.agg e.enc,.one (.int .i64 m)] (.one (.int .i64 (za0 e m))))(m:Int)(h1:1<=m)(h2:m<=1000):
  PCall Pg 145 [.agg t.enc,.one (.int .i64 m)] (.one (.int .i64 (za0 t m))):=by
 refine ztc (by simp) fun o c hN hp=>?_
 have hf:=zhJ o.1
 unfold zah at hf
 have e:za0 t m=za8 t.kids m 1:=by cases t;rw[za0];try rfl
 rw[e]
 unfold zkR
 simp
 refine W.loop zab hp (fun x:Nat × Int=>x.1<=t.kids.length/\(1<=x.2/\x.2<=1000)/\za8 (t.kids.drop x.1) m x.2=za8 t.kids m 1) (fun x=>[(6,.c (.d (.int .i64 x.1))),(5,.c (.d (.int .i64 x.2))),(2,.c (.d (.rp t.enc 0))),(1,.c (.d (.int .i64 m)))]) (fun _=>[]) (fun x=>t.kids.length-x.1) (0,1) [] ⟨by simp,by simp,by simp⟩ (by simp) fun⟨j,n⟩ ⟨hx1,hx3,hx2⟩=>?_
 unfold ziZ
 simp only at hx1 hx2 hx3
 simp
 refine gd.mk (fun h=>?_) (fun h=>?_)
 ·have hj:j<t.kids.length:=by simpa using h
  rw[List.drop_eq_getElem_cons hj]at hx2
  refine gd.mk (fun h=>?_) (fun h=>?_)
  ·simp at h
   rw[za8,if_pos h]at hx2
   have hw:IntKind.i64.wrap (m-n)=m-n:=wrap_i64 (by omega) (by omega)
   simp[List.getElem?_eq_getElem hj,hw]
   refine zac.mk (ih _ (List.getElem_mem hj) (m-n) (by omega) (by omega)) ?_
   have hle:=zit t.kids[j] (m-n)
   simp
   refine Abs.Next.mk (j+1,n+za0 t.kids[j] (m-n)) [] ⟨by simp;omega,by simp only;omega,hx2⟩ (by simp;omega) ?_
   simp
   exact⟨wrap_i64 (by omega) (by omega),wrap_i64 (by omega) (by omega)⟩
  ·simp at h
   rw[zrR (by omega)]at hx2
   simp[hx2]
 ·have hj:j=t.kids.length:=by simp at h;omega
  subst hj
  rw[List.drop_length,za8]at hx2
  simp[hx2]
mutual
theorem zsN:∀(t:Typ) (m:Int),1<=m->m<=1000->PCall Pg 145 [.agg t.enc,.one (.int .i64 m)] (.one (.int .i64 (za0 t m)))
 |.mk k n s l,m,h1,h2=>zxC (.mk k n s l) (fun e h=>zqJ l e h) m h1 h2
theorem zqJ:∀(l:List Typ) (e:Typ),e∈l->∀m:Int,1<=m->m<=1000->PCall Pg 145 [.agg e.enc,.one (.int .i64 m)] (.one (.int .i64 (za0 e m)))
 |[],e,h=>by cases h
 |d::l,e,h=>by
  cases h with
  |head=>exact zsN d
  |tail _ h=>exact zqJ l e h
end
theorem znD(t:Typ):PCall Pg 113 [.agg t.enc] (.one (.int .i64 (za0 t 201))):=by
 refine ztd (by simp) fun o c hN hp=>?_
 unfold mc_g03_Size
 simp
 refine zac.mk (zsN t 201 (by omega) (by omega)) ?_
 simp
theorem zqK(f:Typ->Int)(B:Int):∀(l:List Typ) (a:Int),0<=a->a<=B->(∀x,x∈l->f x<=B)->0<=l.foldl (fun h k=>if h<f k then f k else h) a/\l.foldl (fun h k=>if h<f k then f k else h) a<=B
 |[],a,h0,h,_=>⟨h0,h⟩
 |x::l,a,h0,h,hl=>by
  have hx:=hl x (by simp)
  rw[List.foldl_cons]
  split
  ·exact zqK f B l _ (by omega) hx fun y hy=>hl y (by simp[hy])
  ·exact zqK f B l _ h0 h fun y hy=>hl y (by simp[hy])
theorem zqL:∀(n:Nat) (t:Typ),1<=za4 n t/\za4 n t<=max 1 n
 |0,t=>by rw[za4];omega
 |1,t=>by rw[za4];omega
 |n+2,t=>by
  rw[za4]
  have:=zqK (za4 (n+1)) (n+1) t.kids 0 (by omega) (by omega) fun x _=>by have:=zqL (n+1) x;omega
  omega
theorem zsO:∀(n:Nat) (t:Typ),n<=100->PCall Pg 144 [.agg t.enc,.one (.int .i64 n)] (.one (.int .i64 (za4 n t)))
 |0,t,hn=>by
  refine zh7 (by simp) fun o c hN hp=>?_
  unfold zeY
  simp[za4]
 |1,t,hn=>by
  refine zh7 (by simp) fun o c hN hp=>?_
  unfold zeY
  simp[za4]
 | n+2,t,hn=>by
  refine zh7 (by simp) fun o c hN hp=>?_
  have hf:=zhJ o.1
  unfold zah at hf
  have e:za4 (n+2) t=t.kids.foldl (fun h k=>if h<za4 (n+1) k then za4 (n+1) k else h) 0+1:=by rw[za4]
  rw[e]
  obtain⟨R,hR⟩:∃R,t.kids.foldl (fun h k=>if h<za4 (n+1) k then za4 (n+1) k else h) 0=R:=⟨_,rfl⟩
  rw[hR]
  unfold zeY
  have hne:¬(((n+2:Nat):Int)<=1):=by omega
  have hne':¬((n:Int)+2<=1):=by omega
  have hw:IntKind.i64.wrap ((n:Int)+2-1)=((n+1:Nat):Int):=by rw[wrap_i64 (by omega) (by omega)];omega
  simp[hne,hne']
  refine W.loop zab hp (fun x:Nat × Int=>x.1<=t.kids.length/\(0<=x.2/\x.2<=n+1)/\(t.kids.drop x.1).foldl (fun h k=>if h<za4 (n+1) k then za4 (n+1) k else h) x.2=R) (fun x=>[(6,.c (.d (.int .i64 x.1))),(5,.c (.d (.int .i64 x.2))),(1,.c (.d (.int .i64 (n+2:Nat)))),(2,.c (.d (.rp t.enc 0)))]) (fun _=>[]) (fun x=>t.kids.length-x.1) (0,0) [] ⟨by simp,⟨by simp,by simp only;omega⟩,by simpa using hR⟩ (by simp) fun⟨j,r⟩ ⟨hx1,hx3,hx2⟩=>?_
  unfold lp_g03_high_0
  simp only at hx1 hx2 hx3
  simp
  refine gd.mk (fun h=>?_) (fun h=>?_)
  ·have hj:j<t.kids.length:=by simpa using h
   rw[List.drop_eq_getElem_cons hj,List.foldl_cons]at hx2
   simp[List.getElem?_eq_getElem hj,hw]
   refine zac.mk (zsO (n+1) t.kids[j] (by omega)) ?_
   have hle:=zqL (n+1) t.kids[j]
   generalize za4 (n+1) t.kids[j]=q at*
   by_cases hq:r<q
   ·rw[if_pos hq]at hx2
    simp[hq]
    refine Abs.Next.mk (j+1,q) [] ⟨by simp;omega,by simp only;omega,hx2⟩ (by simp;omega) ?_
    simp
    exact wrap_i64 (by omega) (by omega)
   ·rw[if_neg hq]at hx2
    simp[hq]
    refine Abs.Next.mk (j+1,r) [] ⟨by simp;omega,by simp only;omega,hx2⟩ (by simp;omega) ?_
    simp
    exact wrap_i64 (by omega) (by omega)
  ·have hj:j=t.kids.length:=by simp at h;omega
   subst hj
   rw[List.drop_length,List.foldl_nil]at hx2
   subst hx2
   exact wrap_i64 (by omega) (by omega)
theorem zjM(t:Typ):PCall Pg 112 [.agg t.enc] (.one (.int .i64 (za4 17 t))):=by
 refine zpE (by simp) fun o c hN hp=>?_
 unfold mc_g03_Height
 simp
 refine zac.mk (zsO 17 t (by omega)) ?_
 simp
theorem zmQ(t:Typ):PCall Pg 125 [.agg t.enc] (.one (.int .i64 (zax t))):=by
 refine zuR (by simp) fun o c hN hp=>?_
 unfold mc_g03_Tag zax
 by_cases h1:t.kind=1
 ·simp[h1]
  exact wrap_i64 (by omega) (by omega)
 by_cases h2:t.kind=2
 ·simp[h2]
  exact wrap_i64 (by omega) (by omega)
 by_cases h3:t.kind=3
 ·simp[h3]
  exact wrap_i64 (by omega) (by omega)
 by_cases h4:t.kind=4
 ·simp[h4]
  exact wrap_i64 (by omega) (by omega)
 by_cases h5:t.kind=5
 ·simp[h5]
  exact wrap_i64 (by omega) (by omega)
 by_cases h6:t.kind=6
 ·simp[h6]
  exact wrap_i64 (by omega) (by omega)
 rw[if_pos (by omega)]
 simp[h1,h2,h3,h4,h5,h6]
theorem zoM:∀(a b:List Typ),zdj a b=eqF za5 a b
 |[],[]=>rfl
 |[],_::_=>rfl
 |_::_,[]=>rfl
 |x::a,y::b=>by rw[zdj,eqF,zoM a b]
theorem zxD(a b:Typ):za5 a b=(decide (a.kind=b.kind)&&(decide (a.name=b.name)&&(decide (a.names=b.names)&&eqF za5 a.kids b.kids))):=by
 cases a;rw[za5,zoM];try rfl
theorem znE{α:Type}{q:α->α->Bool}:∀{a b:List α},eqF q a b=true->a.length=b.length
 |[],[],_=>rfl
 |[],_::_,h=>by cases h
 |_::_,[],h=>by cases h
 |x::a,y::b,h=>by
  rw[eqF,Bool.and_eq_true]at h
  simp[znE h.2]
theorem zxE{α:Type}{a b:List α}{j:Nat}(h1:j<a.length)(h2:j<b.length)(h:a.take j=b.take j)(e:a[j]=b[j]):a.take (j+1)=b.take (j+1):=by
 rw[List.take_succ_eq_append_getElem h1,List.take_succ_eq_append_getElem h2,h,e]
set_option maxRecDepth 20000 in
theorem zxF(a b:Typ)(ih:∀x,x∈a.kids->∀y,PCall Pg 74 [.agg x.enc,.agg y.enc] (.one (.bool (za5 x y)))):PCall Pg 74 [.agg a.enc,.agg b.enc] (.one (.bool (za5 a b))):=by
 have e:=zxD a b
 refine zte (by simp) fun o c hN hp=>?_
 have hf:=zhJ o.1
 unfold zah at hf
 generalize za5 a b=R at*
 have k2:∀{Q:Exit->St->Prop} {S:St} {g} {ms:List Nat} (hl:a.kids.length=b.kids.length) (h0:Match ms S [(6,.c (.d (.int .i64 0))),(3,.c (.d (.rp b.enc 0))),(2,.c (.d (.rp a.enc 0)))] []),
   (eqF za5 a.kids b.kids=false->∀T M n,Abs.look T 4=.c (.d (.bool false))->Q .ret ⟨T,M,n⟩)->(eqF za5 a.kids b.kids=true->∀T M n,Q (.exit 2) ⟨T,M,n⟩)->lw_ Pg c zfo Q g S:=by
  intro Q S g ms hl h0 hn hy
  refine W.loop zab hp (fun j:Nat=>j<=a.kids.length/\eqF za5 (a.kids.drop j) (b.kids.drop j)=eqF za5 a.kids b.kids) (fun j=>[(6,.c (.d (.int .i64 j))),(3,.c (.d (.rp b.enc 0))),(2,.c (.d (.rp a.enc 0)))]) (fun _=>[]) (fun j=>a.kids.length-j) 0 ms ⟨by simp,by simp⟩ h0 fun j ⟨h1,h2⟩=>?_
  unfold zfo
  simp
  refine gd.mk (fun h=>?_) (fun h=>?_)
  ·have hj:j<a.kids.length:=by simpa using h
   have hj2:j<b.kids.length:=by omega
   rw[List.drop_eq_getElem_cons hj,List.drop_eq_getElem_cons hj2,eqF]at h2
   simp[List.getElem?_eq_getElem hj,List.getElem?_eq_getElem hj2]
   refine zac.mk (ih _ (List.getElem_mem hj) _) ?_
   generalize za5 a.kids[j] b.kids[j]=q at*
   cases q with
   |true=>
    simp at h2
    simp
    refine⟨by decide,?_⟩
    refine Abs.Next.mk (j+1) [] ⟨by omega,h2⟩ (by omega) ?_
    simp
    exact wrap_i64 (by omega) (by omega)
   |false=>
    simp at h2
    simp
    exact⟨by decide,hn h2 _ _ _ (by simp)⟩
  ·have hj:j=a.kids.length:=by simp at h;omega
   subst hj
   rw[List.drop_length,hl,List.drop_length]at h2
   exact hy h2.symm _ _ _
 have k1:∀{Q:Exit->St->Prop} {S:St} {g} {ms:List Nat} (hl:a.names.length=b.names.length) (h0:Match ms S [(5,.c (.d (.int .i64 0))),(3,.c (.d (.rp b.enc 0))),(2,.c (.d (.rp a.enc 0)))] []),
   (a.names≠b.names->∀T M n,Abs.look T 4=.c (.d (.bool false))->Q .ret ⟨T,M,n⟩)->(a.names=b.names->∀T M n,Abs.look T 2=.c (.d (.rp a.enc 0))->Abs.look T 3=.c (.d (.rp b.enc 0))->Q (.exit 0) ⟨T,M,n⟩)->lw_ Pg c lp_g03_Same_0 Q g S:=by
  intro Q S g ms hl h0 hn hy
  refine W.loop zab hp (fun j:Nat=>j<=a.names.length/\a.names.take j=b.names.take j) (fun j=>[(5,.c (.d (.int .i64 j))),(3,.c (.d (.rp b.enc 0))),(2,.c (.d (.rp a.enc 0)))]) (fun _=>[]) (fun j=>a.names.length-j) 0 ms ⟨by simp,by simp⟩ h0 fun j ⟨h1,h2⟩=>?_
  unfold lp_g03_Same_0
  simp
  refine gd.mk (fun h=>?_) (fun h=>?_)
  ·have hj:j<a.names.length:=by simpa using h
   have hj2:j<b.names.length:=by omega
   simp[List.getElem?_eq_getElem hj,List.getElem?_eq_getElem hj2]
   by_cases q:a.names[j]=b.names[j]
   ·simp[q]
    refine⟨by decide,?_⟩
    refine Abs.Next.mk (j+1) [] ⟨by omega,zxE hj hj2 h2 q⟩ (by omega) ?_
    simp
    exact wrap_i64 (by omega) (by omega)
   ·simp[q]
    exact⟨by decide,hn (fun z=>q (by simp[z])) _ _ _ (by simp)⟩
  ·have hj:j=a.names.length:=by simp at h;omega
   subst hj
   rw[List.take_length,hl,List.take_length]at h2
   exact hy h2 _ _ _ (by simp) (by simp)
 unfold zkS
 by_cases q1:a.kind=b.kind
 rotate_left
 ·simp[q1]at e
  simp[q1,e]
 by_cases q2:a.name=b.name
 rotate_left
 ·simp[q2]at e
  simp[q1,q2,e]
 by_cases q3:a.names.length=b.names.length
 rotate_left
 ·have:¬a.names=b.names:=fun z=>q3 (by rw[z])
  have q3':¬(a.names.length:Int)=b.names.length:=by omega
  simp[this]at e
  simp[q1,q2,q3,q3',e]
 by_cases q4:a.kids.length=b.kids.length
 rotate_left
 ·have:eqF za5 a.kids b.kids=false:=by
   cases h:eqF za5 a.kids b.kids with
   |false=>rfl
   |true=>exact absurd (znE h) q4
  have q4':¬(a.kids.length:Int)=b.kids.length:=by omega
  simp[this]at e
  simp[q1,q2,q3,q4,q4',e]
 simp[q1,q2,q3,q4]
 refine k1 q3 (ms:=[]) (by simp) (fun hn T M n t4=>?_) (fun hy T M n t2 t3=>?_)
 ·simp[hn]at e
  simp[t4,e]
 ·simp[q1,q2,hy]at e
  simp
  refine k2 q4 (ms:=[]) (by simp[t2,t3]) (fun hn T M n t4=>?_) (fun hy T M n=>?_)
  ·rw[hn]at e
   simp[t4,e]
  ·rw[hy]at e
   simp[e]
mutual
theorem zf0:∀(a b:Typ),PCall Pg 74 [.agg a.enc,.agg b.enc] (.one (.bool (za5 a b)))
 |.mk k n s l,b=>zxF _ b fun x hx y=>zqM l x hx y
theorem zqM:∀(l:List Typ) (x:Typ),x∈l->∀y,PCall Pg 74 [.agg x.enc,.agg y.enc] (.one (.bool (za5 x y)))
 |c::l,x,h,y=>by
  cases List.mem_cons.1 h with
  |inl e=>rw[e];exact zf0 c y
  |inr e=>exact zqM l x e y
end
end Go.Gr
namespace Go.Gr
open Go.Abs Go.Proofs
theorem znz(s:ByteArray):∀l,posR s l<=l.length
 |[]=>Nat.le_refl _
 |n::l=>by have:=znz s l;unfold posR;split<;>simp<;>omega
abbrev bx4:Blk:=.box [.d (.int .i64 0),.d (.str (bs [])),.d (.sl true 1 []),.d (.sl true 4 [])]
abbrev recT(ns:List ByteArray)(ts:List Typ)(i:Nat):List (Nat × AV):=[(7,.c (.d (.int .i64 i))),(6,.c (.ptr 1 0)),(4,.c (.ptr 0 0)),(1,.c (.d (.sl false 4 (ts.map Typ.enc)))),(0,.c (.d (.sl false 1 (encS ns))))]
abbrev recB(ns:List ByteArray)(ks:List Typ):List Blk:=[bx4,.box [.d (.int .i64 5),.d (.str (bs [])),.msl 1 2 0 ns.length,.msl 4 3 0 ks.length],.arr 1 ((encS ns).map (·.map .d)),.arr 4 ((ks.map Typ.enc).map (·.map .d))]
set_option maxRecDepth 20000 in
theorem zy1{c:Ctx}(hp:c.pure)(ns:List ByteArray)(ts:List Typ)(i:Nat)(hi:i<ns.length)(ok:Bool)(ms:List ByteArray)(ks:List Typ)(hms:ms.length<=100){Q:Exit->St->Prop}{S:St}{g}{l:List Nat}
  (h0:Match l S ((9,.c (.d (.int .i64 0)))::(8,.c (.d (.bool ok)))::recT ns ts i) (recB ms ks))
  (hQ:∀T,Abs.look T 9=.c (.d (.int .i64 (posR ns[i] ms)))->Abs.look T 8=.c (.d (.bool ok))->Abs.look T 7=.c (.d (.int .i64 i))->Abs.look T 6=.c (.ptr 1 0)->Abs.look T 4=.c (.ptr 0 0)->Abs.look T 1=.c (.d (.sl false 4 (ts.map Typ.enc)))->Abs.look T 0=.c (.d (.sl false 1 (encS ns)))->Q (.exit 2) ⟨T,hpOf (recB ms ks),4⟩):lw_ Pg c lp_g03_record_2 Q g S:=by
 refine W.loop zab hp (fun k:Nat=>k<=ms.length/\k+posR ns[i] (ms.drop k)=posR ns[i] ms) (fun k=>(9,.c (.d (.int .i64 k)))::(8,.c (.d (.bool ok)))::recT ns ts i) (fun _=>recB ms ks) (fun k=>ms.length-k) 0 l ⟨by simp,by simp⟩ h0 fun k ⟨h1,h2⟩=>?_
 unfold lp_g03_record_2
 simp
 refine gd.mk (fun h=>?_) (fun h=>?_)
 ·have hk:k<ms.length:=by simpa using h
  rw[List.drop_eq_getElem_cons hk,posR]at h2
  simp[List.getElem?_eq_getElem hk,List.getElem?_eq_getElem hi]
  refine⟨hk,by decide,?_⟩
  refine gd.mk (fun h=>?_) (fun h=>?_)
  ·rw[if_pos (by unfold ltS;exact h)]at h2
   refine Abs.Next.mk (k+1) [0,1,2,3] ⟨by omega,by omega⟩ (by omega) ?_
   simp
   exact wrap_i64 (by omega) (by omega)
  ·rw[if_neg (by unfold ltS;simpa using h)]at h2
   exact hQ _ (by simp;omega) (by simp) (by simp) (by simp) (by simp) (by simp) (by simp)
 ·have hk:k=ms.length:=by simp at h;omega
  subst hk
  rw[List.drop_length,posR]at h2
  simp
  exact⟨by decide,hQ _ (by simp;omega) (by simp) (by simp) (by simp) (by simp) (by simp) (by simp)⟩
theorem znA(ms:List ByteArray)(ks:List Typ):Typ.enc (.mk 5 (bs []) ms ks)=[.int .i64 5,.str (bs []),.sl false 1 (encS ms),.sl false 4 (ks.map Typ.enc)]:=by rw[Typ.enc_eq];try rfl
theorem zbH(ks:List Typ):List.take ks.length (List.map ((fun x=>List.map AC.d x)∘Typ.enc) ks)=List.map ((fun x=>List.map AC.d x)∘Typ.enc) ks:=List.take_of_length_le (by simp)
theorem zy2(ms:List ByteArray):List.take ms.length (List.map (fun x=>List.map AC.d x) (encS ms))=List.map (fun x=>List.map AC.d x) (encS ms):=List.take_of_length_le (by simp)
theorem mid{α:Type}{l:List α}{k n:Nat}(hn:n=l.length)(hk:k<=l.length)(x:α):List.take (k+1) (List.take k (List.take k l)++[x])++List.take (n-k) (List.drop k l)=List.take k l++x::List.drop k l:=by
 subst hn
 rw[List.take_of_length_le (l:=List.take k (List.take k l)++[x]) (by simp;omega),List.take_of_length_le (l:=List.drop k l) (by simp),List.take_take,Nat.min_self,List.append_assoc];rfl
theorem zkq{ks:List Typ}{L:List (List AC)}(h:∀x,x∈L->x∈List.map ((fun x=>List.map AC.d x)∘Typ.enc) ks)(n:Nat):∀x,x∈L->AC.lts n x=true:=fun x hx=>by
 obtain⟨t,_,rfl⟩:=List.mem_map.1 (h x hx)
 simp
set_option maxRecDepth 20000 in
set_option maxHeartbeats 1000000 in
theorem zvn(ns:List ByteArray)(ts:List Typ):PCall Pg 146 [.one (.sl false 1 (encS ns)),.one (.sl false 4 (ts.map Typ.enc))] (.tup [.agg (zcE ns ts).1.enc,.one (.bool (zcE ns ts).2)]):=by
 refine zpF (by simp) fun o c hN hp=>?_
 have hb:Typ.enc (.mk 5 (bs []) [] [])=[.int .i64 5,.str (bs []),.sl false 1 [],.sl false 4 []]:=rfl
 obtain⟨R,hR⟩:∃R,zcE ns ts=R:=⟨_,rfl⟩
 rw[hR]
 unfold zcE at hR
 unfold zi0
 by_cases h1:ns.length=ts.length
 rotate_left
 ·have h1':¬(ns.length:Int)=ts.length:=by omega
  rw[if_pos (.inl h1)]at hR
  subst hR
  simp[h1,h1',hb]
 by_cases h2:16<ns.length
 ·have h2':(16:Int)<ns.length:=by omega
  have h2'':(16:Int)<ts.length:=by omega
  rw[if_pos (.inr h2)]at hR
  subst hR
  simp[h1,h2',h2'',hb]
 have h2':¬(16:Int)<ns.length:=by omega
 have h2'':¬(16:Int)<ts.length:=by omega
 rw[if_neg (by omega)]at hR
 simp[h1,h2',h2'']
 refine owK.mk [.c 1 2,.c 1 3] ?_
 simp
 refine W.loop zab hp (fun x:Nat × List ByteArray × List Typ=>x.1<=ns.length/\x.2.1.length=x.2.2.length/\x.2.1.length<=x.1/\recR (ns.drop x.1) (ts.drop x.1) x.2.1 x.2.2=recR ns ts [] []) (fun x=>recT ns ts x.1) (fun x=>recB x.2.1 x.2.2) (fun x=>ns.length-x.1) (0,[],[]) [0,1,2,3] ⟨by simp,rfl,by simp,by simp⟩ (by simp[encS]) fun⟨i,ms,ks⟩ ⟨i1,i2,i3,i4⟩=>?_
 unfold zgI
 simp only at i1 i2 i3 i4
 simp
 refine gd.mk (fun h=>?_) (fun h=>?_)
 ·have hi:i<ns.length:=by simpa using h
  have ht:i<ts.length:=by omega
  rw[List.drop_eq_getElem_cons hi,List.drop_eq_getElem_cons ht,recR]at i4
  simp[List.getElem?_eq_getElem hi]
  refine zac.mk (zsS _) ?_
  simp
  refine zy1 hp ns ts i hi (za1 ns[i]) ms ks (by omega) (l:=[0,1,2,3]) (by simp) fun T t9 t8 t7 t6 t4 t1 t0=>?_
  have hpl:=znz ns[i] ms
  generalize posR ns[i] ms=k at*
  simp[t9,t8,t7,t6]
  by_cases hn:za1 ns[i]=true
  rotate_left
  ·rw[if_pos (.inl (by simpa using hn))]at i4
   rw[<-i4]at hR
   subst hR
   have z1:List.take ms.length (encS ms)=encS ms:=List.take_of_length_le (by simp)
   have z2:List.take ks.length (List.map Typ.enc ks)=List.map Typ.enc ks:=List.take_of_length_le (by simp)
   simp[hn,t4]
   refine⟨by decide,?_⟩
   simp[z1,z2,znA]
  have hks:k<=ks.length:=by omega
  have hmin:min k ms.length=k:=by omega
  have hmin2:min k ks.length=k:=by omega
  by_cases hk:k<ms.length
  ·by_cases he:ms[k]=ns[i]
   ·rw[if_pos (.inr (by rw[List.getElem?_eq_getElem hk,he]))]at i4
    rw[<-i4]at hR
    subst hR
    have z1:List.take ms.length (encS ms)=encS ms:=List.take_of_length_le (by simp)
    have z2:List.take ks.length (List.map Typ.enc ks)=List.map Typ.enc ks:=List.take_of_length_le (by simp)
    simp[hn,t4,t0,hk,List.getElem?_eq_getElem hk,List.getElem?_eq_getElem hi,he]
    refine⟨by decide,?_⟩
    simp[z1,z2,znA]
   ·rw[if_neg (by rw[List.getElem?_eq_getElem hk];simp[hn,he])]at i4
    simp[hn,t4,t0,t1,hk,List.getElem?_eq_getElem hk,List.getElem?_eq_getElem hi,List.getElem?_eq_getElem ht,he,hmin,hmin2,hpl,hks]
    refine⟨by decide,by omega,by omega,by omega,by omega,by omega,by omega,?_⟩
    refine Abs.Next.mk (i+1,ms.take k++ns[i]::ms.drop k,ks.take k++ts[i]::ks.drop k) [0,1,6,9] ⟨by simp only;omega,by simp;omega,by simp;omega,i4⟩ (by simp only;omega) ?_
    simp[t0,t1,t4,t6,t7]
    refine⟨wrap_i64 (by omega) (by omega),⟨by omega,by omega⟩,?_,mid (by simp) (by simp;omega) _,zkq (fun x hx=>List.mem_of_mem_take hx) 4,zkq (fun x hx=>List.mem_of_mem_drop hx) 4⟩
    rw[mid (l:=List.map (fun x=>List.map AC.d x) (encS ms)) (by simp) (by simp;omega)]
    simp[encS,List.map_take,List.map_drop]
  ·have hk2:k=ms.length:=by omega
   rw[if_neg (by rw[List.getElem?_eq_none (by omega)];simp[hn])]at i4
   simp[hn,t4,t0,t1,hk,List.getElem?_eq_getElem hi,List.getElem?_eq_getElem ht,hmin,hmin2,hpl,hks]
   refine⟨by decide,by omega,by omega,by omega,by omega,by omega,by omega,?_⟩
   refine Abs.Next.mk (i+1,ms.take k++ns[i]::ms.drop k,ks.take k++ts[i]::ks.drop k) [0,1,6,9] ⟨by simp only;omega,by simp;omega,by simp;omega,i4⟩ (by simp only;omega) ?_
   simp[t0,t1,t4,t6,t7]
   refine⟨wrap_i64 (by omega) (by omega),⟨by omega,by omega⟩,?_,mid (by simp) (by simp;omega) _,zkq (fun x hx=>List.mem_of_mem_take hx) 4,zkq (fun x hx=>List.mem_of_mem_drop hx) 4⟩
   rw[mid (l:=List.map (fun x=>List.map AC.d x) (encS ms)) (by simp) (by simp;omega)]
   simp[encS,List.map_take,List.map_drop]
 ·have hi:i=ns.length:=by simp at h;omega
  subst hi
  rw[List.drop_length,recR]at i4
  rotate_left
  ·intros;contradiction
  rw[<-i4]at hR
  subst hR
  have z1:List.take ms.length (List.map (fun x=>List.map AC.d x) (encS ms))=List.map (fun x=>List.map AC.d x) (encS ms):=zy2 ms
  have z3:List.take ms.length (encS ms)=encS ms:=List.take_of_length_le (by simp)
  have z4:List.take ks.length (List.map Typ.enc ks)=List.map Typ.enc ks:=List.take_of_length_le (by simp)
  simp[z1,zbH,znA,z3,z4]
end Go.Gr
