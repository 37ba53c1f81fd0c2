/- Texts of ours, joined and written short by a program of ours. -/
import Derived.Test.YtlfjlokfciejnaaGreatDoorJ13
import Derived.Test.YtlfjlokfciejnaaGreatDoorJ11
import Derived.Test.YtlfjlokfciejnaaGreatDoorJ10
import Derived.Test.YtlfjlokfciejnaaGreatDoorSrt
set_option maxRecDepth 20000
set_option maxHeartbeats 4000000
set_option linter.all false
namespace Go.Gr
open Go.Abs Go.Proofs
@[simp] theorem Cor.get0(c:Cor)(h:0<c.enc.length):c.enc[0]=.int .i64 c.kind:=by simp only[c.enc_eq];rfl
@[simp] theorem Cor.get1(c:Cor)(h:1<c.enc.length):c.enc[1]=.int .i64 c.n:=by simp only[c.enc_eq];rfl
@[simp] theorem Cor.get3(c:Cor)(h:3<c.enc.length):c.enc[3]=.sl false 1 (encI c.ints):=by simp only[c.enc_eq];rfl
@[simp] theorem Cor.get7(c:Cor)(h:7<c.enc.length):c.enc[7]=.sl false 8 (c.kids.map Cor.enc):=by simp only[c.enc_eq];rfl
def noTs{ts:List (Nat × Nat)}(h:ts.length=([]:List Blk).length):ts=[]:=by simpa using h
def zf9(c:Cor):csz c=1+cszs c.kids:=by cases c;rw[csz];try rfl
def zu7:∀l:List Cor,l.length<=cszs l
 |[]=>by simp
 |c::l=>by
  have:=zu7 l
  have:=zf9 c
  rw[cszs,List.length_cons];omega
def zC3(l:List Cor)(hl:l.length<=1000000000):MCall Pg 39 [.c (.d (.sl false 8 (l.map Cor.enc)))] [] (.c (.msl 8 0 0 l.length)) [.arr 8 ((l.map Cor.enc).map (·.map .d))]:=by
 refine ze8 ⟨by simp,by simp,by simp,by simp,by simp,by simp[live],by simp⟩ fun ts hts ok hb c hN hp=>?_
 obtain rfl:=noTs hts
 unfold zcU
 cases l with
 | nil=>
  simp
  refine⟨fQ [.t 2] ?_,fQ [] ?_⟩
  ·simp
   exact fI [0] []
  ·simp
   exact fI [0] []
 |cons x l=>
  simp
  refine⟨by simp at hl;omega,?_⟩
  refine fQ [] ?_
  simp
  exact fI [0] []
abbrev row7(c:Cor)(x:AC):List AC:=[.d (.int .i64 c.kind),.d (.int .i64 c.n),.d (.str c.text),.d (.sl false 1 (encI c.ints)),.d (.sl false 1 (encS c.names)),.d (.sl false 4 (c.types.map Typ.enc)),.d (.sl false 5 (c.cos.map Coe.enc)),x]
def zGI(c:Cor)(x:AC):put (c.enc.map AC.d) 7 [x]=row7 c x:=by
 rw[c.enc_eq];try rfl
def St.cut7{F:St->Prop}{t:List (Nat × AV)}{m:Hp}{n:Nat}(ts:List (Nat × AV))(bs:List Blk)(ht:∀p,p∈ts->Abs.look t p.1=p.2)(hm:∀i,m i=hpOf bs i)(h:∀T,(∀p,p∈ts->Abs.look T p.1=p.2)->F ⟨T,hpOf bs,n⟩):F ⟨t,m,n⟩:=by
 have e:m=hpOf bs:=funext hm
 subst e
 exact h t ht
def zkb{m:Nat}{k:Int}(h5:k≠5):∀{l:List Cor} {i j:Nat} (h:j<l.length),wfCs m k l i->wfC (if k=18 then m+(i+j)else m) l[j]
 |c::l,i,0,h,hw=>by
  rw[wfCs,aB h5]at hw
  exact hw.1
 |c::l,i,j+1,h,hw=>by
  rw[wfCs]at hw
  have:=zkb h5 (i:=i+1) (j:=j) (by simpa using h) hw.2
  rw[show i+1+j=i+(j+1)from by omega]at this
  exact this
def zfK:∀{l:List Cor} {j:Nat} (h:j<l.length),j+csz l[j]<=cszs l
 |c::l,0,h=>by rw[cszs];simp
 |c::l,j+1,h=>by
  have:=zfK (l:=l) (j:=j) (by simpa using h)
  have:=zf9 c
  rw[cszs]
  simp only[List.getElem_cons_succ]
  omega
@[simp] theorem Fun.get0(f:Fun)(h:0<f.enc.length):f.enc[0]=.str f.name:=rfl
theorem Fun.enc_eq(f:Fun):f.enc=.str f.name::(f.type.enc++f.body.enc):=rfl
@[simp] theorem Fun.cut_body(f:Fun):cut (f.enc.map AC.d) 5 8=f.body.enc.map .d:=by unfold Fun.enc;rw[f.type.enc_eq,f.body.enc_eq];try rfl
@[simp] theorem Fun.cut_bodyD(f:Fun):cut f.enc 5 8=f.body.enc:=by unfold Fun.enc;rw[f.type.enc_eq,f.body.enc_eq];try rfl
def zBU(l:List Fun)(hl:l.length<=1000000000):MCall Pg 18 [.c (.d (.sl false 13 (l.map Fun.enc)))] [] (.c (.msl 13 0 0 l.length)) [.arr 13 ((l.map Fun.enc).map (·.map .d))]:=by
 refine zfM ⟨by simp,by simp,by simp,by simp,by simp,by simp[live],by simp⟩ fun ts hts ok hb c hN hp=>?_
 obtain rfl:=noTs hts
 unfold zc8
 cases l with
 | nil=>
  simp
  refine⟨fQ [.t 2] ?_,fQ [] ?_⟩
  ·simp
   exact fI [0] []
  ·simp
   exact fI [0] []
 |cons x l=>
  simp
  refine⟨by simp at hl;omega,?_⟩
  refine fQ [] ?_
  simp
  exact fI [0] []
def zkh:MC:=(fun x(_:x=gC tt [] [(7,[0,1,0,7,15,0,32,0,224,480,1023])] [] (gLb 0 (gB Tryz.f11)))=>x) _ (by dsimp[Tryz.f11])
def zki:MC:=(fun x(_:x=gC tt [] [(12,[0,1,0,7,15,0,32,0,224,480,1023,2047])] [] (gLb 2 (gB Tryz.f11)))=>x) _ (by dsimp[Tryz.f11])
def zkj:MC:=(fun x(_:x=gC tt [] [(18,[0,1,0,7,15,0,32,0,224,480,1023,2047])] [] (gLb 4 (gB Tryz.f11)))=>x) _ (by dsimp[Tryz.f11])
def zm0:MC:=(fun x(_:x=gC tt [] [] [(0,zkh),(2,zki),(4,zkj)] (gB Tryz.f11))=>x) _ (by dsimp[Tryz.f11])
def zwU:WT Pg 11 133 zm0 [.tmp 4]:=wT zaa Tryz.func11 (by kernel_rfl)
def zkk:MC:=(fun x(_:x=gC tt [] [(6,[0,0,3,7,0,0,48,112,255])] [] (gLb 0 (gB Tryz.f24)))=>x) _ (by dsimp[Tryz.f24])
def zm1:MC:=(fun x(_:x=gC tt [] [] [(0,zkk)] (gB Tryz.f24))=>x) _ (by dsimp[Tryz.f24])
def zwV:WT Pg 24 26 zm1 [.tmp 4]:=wT zaa Tryz.func24 (by kernel_rfl)
def zlP:MC:=(fun x(_:x=gC tt [] [(6,[0,1,0,7,15,0,32,0,224,480,1023])] [] (gLb 0 (gB Tryz.f25)))=>x) _ (by dsimp[Tryz.f25])
def zlQ:MC:=(fun x(_:x=gC tt [] [(11,[0,1,0,7,15,0,32,0,224,480,1023])] [] (gLb 2 (gB Tryz.f25)))=>x) _ (by dsimp[Tryz.f25])
def zlR:MC:=(fun x(_:x=gC tt [] [(16,[0,1,0,7,15,0,32,0,224,480,1023])] [] (gLb 4 (gB Tryz.f25)))=>x) _ (by dsimp[Tryz.f25])
def zlS:MC:=(fun x(_:x=gC tt [] [(21,[0,1,0,7,15,0,32,0,224,480,1023,2047])] [] (gLb 6 (gB Tryz.f25)))=>x) _ (by dsimp[Tryz.f25])
def zlT:MC:=(fun x(_:x=gC tt [] [(27,[0,1,0,7,15,0,32,0,224,480,1023,2047])] [] (gLb 8 (gB Tryz.f25)))=>x) _ (by dsimp[Tryz.f25])
def zor:MC:=(fun x(_:x=gC tt [] [] [(0,zlP),(2,zlQ),(4,zlR),(6,zlS),(8,zlT)] (gB Tryz.f25))=>x) _ (by dsimp[Tryz.f25])
def zzc:WT Pg 25 149 zor [.tmp 4]:=wT zaa Tryz.func25 (by kernel_rfl)
end Go.Gr
namespace Go.Gr
open Go.Abs Go.Proofs List
@[simp] theorem Cor.get2(c:Cor)(h:2<c.enc.length):c.enc[2]=.str c.text:=by simp only[c.enc_eq];rfl
@[simp] theorem Cor.get4(c:Cor)(h:4<c.enc.length):c.enc[4]=.sl false 1 (encS c.names):=by simp only[c.enc_eq];rfl
@[simp] theorem Cor.get5(c:Cor)(h:5<c.enc.length):c.enc[5]=.sl false 4 (c.types.map Typ.enc):=by simp only[c.enc_eq];rfl
@[simp] theorem Cor.get6(c:Cor)(h:6<c.enc.length):c.enc[6]=.sl false 5 (c.cos.map Coe.enc):=by simp only[c.enc_eq];rfl
def zqm(c:Coe):Prop:=PCall Pg 25 [.agg c.enc,.agg c.enc] (.one (.bool true))
def zAH(c:Coe)(ih:∀x,x∈c.fields++c.fn->zqm x):zqm c:=by
 refine zzc (by simp) fun o cx hN hp=>?_
 have hln:=o.1
 rw[c.enc_eq]at hln
 simp only[DV.ok,D.okL,D.ok,aU]at hln
 unfold zaf at hln
 have l1:c.tags.length<=4611686018427387904:=by have:=hln.1.1;simpa[encI]using this
 have l2:c.needs.length<=4611686018427387904:=by have:=hln.2.1.1;simpa[encN]using this
 have l3:c.names.length<=4611686018427387904:=by have:=hln.2.2.1.1;simpa[encS]using this
 have l4:c.fields.length<=4611686018427387904:=by have:=hln.2.2.2.1.1;simpa using this
 have l5:c.fn.length<=4611686018427387904:=by have:=hln.2.2.2.2.1.1;simpa using this
 clear hln
 unfold zor
 simp
 refine fK zaa hp (fun j:Nat=>j<=c.tags.length) (fun j=>[(5,.c (.d (.int .i64 j))),(3,.c (.d (.rp c.enc 0))),(2,.c (.d (.rp c.enc 0)))]) (fun _=>[]) (fun j=>c.tags.length-j) 0 [] (by simp) (by simp) fun j i1=>?_
 unfold zlP
 simp
 apply gI<;>intro h
 ·have hj:j<c.tags.length:=by simpa[encI,encS,encN]using h
  have hw:=wI (n:=(j:Int)+1)
  simp[hj,encI,encS,encN]
  refine⟨by decide,?_⟩
  refine fD (j+1) [] (by omega) (by omega) ?_
  simp[hw]
 try simp
 refine fK zaa hp (fun j:Nat=>j<=c.needs.length) (fun j=>[(6,.c (.d (.int .i64 j))),(3,.c (.d (.rp c.enc 0))),(2,.c (.d (.rp c.enc 0)))]) (fun _=>[]) (fun j=>c.needs.length-j) 0 [] (by simp) (by simp) fun j i1=>?_
 unfold zlQ
 simp
 apply gI<;>intro h
 ·have hj:j<c.needs.length:=by simpa[encI,encS,encN]using h
  have hw:=wI (n:=(j:Int)+1)
  simp[hj,encI,encS,encN]
  refine⟨by decide,?_⟩
  refine fD (j+1) [] (by omega) (by omega) ?_
  simp[hw]
 try simp
 refine fK zaa hp (fun j:Nat=>j<=c.names.length) (fun j=>[(7,.c (.d (.int .i64 j))),(3,.c (.d (.rp c.enc 0))),(2,.c (.d (.rp c.enc 0)))]) (fun _=>[]) (fun j=>c.names.length-j) 0 [] (by simp) (by simp) fun j i1=>?_
 unfold zlR
 simp
 apply gI<;>intro h
 ·have hj:j<c.names.length:=by simpa[encI,encS,encN]using h
  have hw:=wI (n:=(j:Int)+1)
  simp[hj,encI,encS,encN]
  refine⟨by decide,?_⟩
  refine fD (j+1) [] (by omega) (by omega) ?_
  simp[hw]
 try simp
 refine fK zaa hp (fun j:Nat=>j<=c.fields.length) (fun j=>[(8,.c (.d (.int .i64 j))),(3,.c (.d (.rp c.enc 0))),(2,.c (.d (.rp c.enc 0)))]) (fun _=>[]) (fun j=>c.fields.length-j) 0 [] (by simp) (by simp) fun j i1=>?_
 unfold zlS
 simp
 apply gI<;>intro h
 ·have hj:j<c.fields.length:=by simpa[encI,encS,encN]using h
  have hw:=wI (n:=(j:Int)+1)
  have hc:=ih _ (mem_append_left _ (aS hj))
  obtain⟨d,hd⟩:∃d,c.fields[j]=d:=⟨_,rfl⟩
  rw[hd]at hc
  simp[hj,hd]
  refine gN hc ?_
  simp
  refine⟨by decide,?_⟩
  refine fD (j+1) [] (by omega) (by omega) ?_
  simp[hw]
 try simp
 refine fK zaa hp (fun j:Nat=>j<=c.fn.length) (fun j=>[(10,.c (.d (.int .i64 j))),(3,.c (.d (.rp c.enc 0))),(2,.c (.d (.rp c.enc 0)))]) (fun _=>[]) (fun j=>c.fn.length-j) 0 [] (by simp) (by simp) fun j i1=>?_
 unfold zlT
 simp
 apply gI<;>intro h
 ·have hj:j<c.fn.length:=by simpa[encI,encS,encN]using h
  have hw:=wI (n:=(j:Int)+1)
  have hc:=ih _ (mem_append_right _ (aS hj))
  obtain⟨d,hd⟩:∃d,c.fn[j]=d:=⟨_,rfl⟩
  rw[hd]at hc
  simp[hj,hd]
  refine gN hc ?_
  simp
  refine⟨by decide,?_⟩
  refine fD (j+1) [] (by omega) (by omega) ?_
  simp[hw]
 try simp
mutual
def zuI:∀c:Coe,zqm c
 |.mk t n s f g=>zAH _ fun x hx=>(aQ.1 hx).elim (zmP f x) (zmP g x)
def zmP:∀(l:List Coe) (x:Coe),x∈l->zqm x
 |[],x,hx=>by cases hx
 |c::l,x,hx=>by
  rcases aM.1 hx with e|hx
  ·rw[e];exact zuI c
  ·exact zmP l x hx
end
def zyS(l:List fC):PCall Pg 24 [.one (.sl false 1 (encS l)),.one (.sl false 1 (encS l))] (.one (.bool true)):=by
 refine zwV (by simp) fun o cx hN hp=>?_
 have hln:=o.1
 simp only[DV.ok,D.ok]at hln
 unfold zaf at hln
 have l1:l.length<=4611686018427387904:=by have:=hln.1;simpa[encS]using this
 clear hln
 unfold zm1
 simp
 refine fK zaa hp (fun j:Nat=>j<=l.length) (fun j=>[(5,.c (.d (.int .i64 j))),(1,.c (.d (.sl false 1 (encS l)))),(0,.c (.d (.sl false 1 (encS l))))]) (fun _=>[]) (fun j=>l.length-j) 0 [] (by simp) (by simp) fun j i1=>?_
 unfold zkk
 simp
 apply gI<;>intro h
 ·have hj:j<l.length:=by simpa[encS]using h
  have hw:=wI (n:=(j:Int)+1)
  simp[hj,encS]
  refine⟨by decide,?_⟩
  refine fD (j+1) [] (by omega) (by omega) ?_
  simp[hw,encS]
 try simp
def zqn(c:Cor):Prop:=PCall Pg 11 [.agg c.enc,.agg c.enc] (.one (.bool true))
def zAI(c:Cor)(ih:∀x,x∈c.kids->zqn x):zqn c:=by
 refine zwU (by simp) fun o cx hN hp=>?_
 have hln:=o.1
 rw[c.enc_eq]at hln
 simp only[DV.ok,D.okL,D.ok,aU]at hln
 unfold zaf at hln
 have l1:c.ints.length<=4611686018427387904:=by have:=hln.2.2.2.1.1;simpa[encI]using this
 have l2:c.cos.length<=4611686018427387904:=by have:=hln.2.2.2.2.2.2.1.1;simpa using this
 have l3:c.kids.length<=4611686018427387904:=by have:=hln.2.2.2.2.2.2.2.1.1;simpa using this
 clear hln
 unfold zm0
 simp
 refine gN (zyS c.names) ?_
 simp
 refine fK zaa hp (fun j:Nat=>j<=c.ints.length) (fun j=>[(6,.c (.d (.int .i64 j))),(3,.c (.d (.rp c.enc 0))),(2,.c (.d (.rp c.enc 0)))]) (fun _=>[]) (fun j=>c.ints.length-j) 0 [] (by simp) (by simp) fun j i1=>?_
 unfold zkh
 simp
 apply gI<;>intro h
 ·have hj:j<c.ints.length:=by simpa[encI,encS,encN]using h
  have hw:=wI (n:=(j:Int)+1)
  simp[hj,encI,encS,encN]
  refine⟨by decide,?_⟩
  refine fD (j+1) [] (by omega) (by omega) ?_
  simp[hw]
 try simp
 refine fK zaa hp (fun j:Nat=>j<=c.cos.length) (fun j=>[(7,.c (.d (.int .i64 j))),(3,.c (.d (.rp c.enc 0))),(2,.c (.d (.rp c.enc 0)))]) (fun _=>[]) (fun j=>c.cos.length-j) 0 [] (by simp) (by simp) fun j i1=>?_
 unfold zki
 simp
 apply gI<;>intro h
 ·have hj:j<c.cos.length:=by simpa[encI,encS,encN]using h
  have hw:=wI (n:=(j:Int)+1)
  have hc:=zuI c.cos[j]
  obtain⟨d,hd⟩:∃d,c.cos[j]=d:=⟨_,rfl⟩
  rw[hd]at hc
  simp[hj,hd]
  refine gN hc ?_
  simp
  refine⟨by decide,?_⟩
  refine fD (j+1) [] (by omega) (by omega) ?_
  simp[hw]
 try simp
 refine fK zaa hp (fun j:Nat=>j<=c.kids.length) (fun j=>[(9,.c (.d (.int .i64 j))),(3,.c (.d (.rp c.enc 0))),(2,.c (.d (.rp c.enc 0)))]) (fun _=>[]) (fun j=>c.kids.length-j) 0 [] (by simp) (by simp) fun j i1=>?_
 unfold zkj
 simp
 apply gI<;>intro h
 ·have hj:j<c.kids.length:=by simpa[encI,encS,encN]using h
  have hw:=wI (n:=(j:Int)+1)
  have hc:=ih _ (aS hj)
  obtain⟨d,hd⟩:∃d,c.kids[j]=d:=⟨_,rfl⟩
  rw[hd]at hc
  simp[hj,hd]
  refine gN hc ?_
  simp
  refine⟨by decide,?_⟩
  refine fD (j+1) [] (by omega) (by omega) ?_
  simp[hw]
 try simp
mutual
def zqo:∀c:Cor,zqn c
 |.mk k n t is ns ts cs ks=>zAI _ (zon ks)
def zon:∀(l:List Cor) (x:Cor),x∈l->zqn x
 |[],x,hx=>by cases hx
 |c::l,x,hx=>by
  rcases aM.1 hx with e|hx
  ·rw[e];exact zqo c
  ·exact zon l x hx
end
mutual
def za9:Coe->Coe->Bool
 |.mk t n s f g,.mk t' n' s' f' g'=>decide (t=t')&&(decide (n=n')&&(decide (s=s')&&(zco f f'&&zco g g')))
def zco:List Coe->List Coe->Bool
 |[],[]=>true
 |a::l,b::k=>za9 a b&&zco l k
 |_,_=>false
end
def idC:Coe:=.mk [0,0,0,0,0,0] [] [] [] []
def eqFZ{α:Type}(q:α->α->Bool):List α->List α->Bool
 |[],[]=>true
 |a::l,b::k=>q a b&&eqFZ q l k
 |_,_=>false
def zg3:∀(a b:List Coe),zco a b=eqFZ za9 a b
 |[],[]=>by simp[zco,eqFZ]
 |[],_::_=>by simp[zco,eqFZ]
 |_::_,[]=>by simp[zco,eqFZ]
 |a::l,b::k=>by simp[zco,eqFZ,zg3 l k]
def zt4(a b:Coe):za9 a b=(decide (a.tags=b.tags)&&(decide (a.needs=b.needs)&&(decide (a.names=b.names)&&(eqFZ za9 a.fields b.fields&&eqFZ za9 a.fn b.fn)))):=by
 cases a;cases b
 simp only[za9,zg3]
 rfl
end Go.Gr
namespace Go.Gr
open Go.Abs Go.Proofs List
end Go.Gr
namespace Go.Gr
open Go.Abs Go.Proofs List
def leS(a b:fC):Bool:=Op.bytesLess a.data.toList b.data.toList||decide (a=b)
def zdw:List fC->Bool
 |a::b::l=> !leS b a&&zdw (b::l)
 |_=>true
def zs4:∀{l:List fC} {i:Nat} (h:i+1<l.length),leS l[i+1] l[i]=true->zdw l=false
 |a::b::l,0,h,e=>by
  simp only[getElem_cons_succ,getElem_cons_zero]at e
  simp[zdw,e]
 |a::b::l,i+1,h,e=>by
  have:=zs4 (l:=b::l) (i:=i) (by simpa using h) (by simpa using e)
  simp[zdw,this]
 |[],_,h,_=>by simp at h
 |[_],_,h,_=>by simp at h
def zq1:∀{l:List fC},(∀i (h:i+1<l.length),leS l[i+1] l[i]=false)->zdw l=true
 |[],_=>rfl
 |[_],_=>rfl
 | a::b::l,H=>by
  have h0:=H 0 (by simp)
  simp only[getElem_cons_succ,getElem_cons_zero]at h0
  have:=zq1 (l:=b::l) fun i h=>by
   have:=H (i+1) (by simpa using h)
   simpa only[getElem_cons_succ]using this
  simp[zdw,h0,this]
def zne(l:List (fC × Int))(j:Nat):Prop:=∀i (h:i<l.length),i<j->l[i].2≠0/\∀k (hk:k<i),l[k].1≠l[i].1
def zcu:List fC->List (fC × Int)->Bool
 |_,[]=>true
 |seen,x::l=>decide (x.2≠0)&&(!(seen.any fun y=>decide (y=x.1))&&zcu (x.1::seen) l)
def zjy:∀(l:List (fC × Int)) (seen:List fC),zcu seen l=true↔(∀i (h:i<l.length),l[i].1∉seen)/\zne l l.length
 |[],seen=>by simp[zcu,zne]
 | x ::l,seen=>by
  have hm:(!(seen.any fun y=>decide (y=x.1)))=true↔x.1∉seen:=by
   simp
   exact⟨fun h hx=>h _ hx rfl,fun h y hy e=>h (e▸hy)⟩
  simp only[zcu,aD,aI]
  rw[zjy l (x.1::seen),hm]
  constructor
  ·rintro⟨h1,h2,h3,h4⟩
   refine⟨fun i h=>?_,fun i h hj=>?_⟩
   ·cases i with
    |zero=>exact h2
    |succ i=>have:=h3 i (by simpa using h);simp only[aM,dP]at this;exact this.2
   ·cases i with
    |zero=>exact⟨h1,fun k hk=>by omega⟩
    |succ i=>
     have h':i<l.length:=by simpa using h
     have:=h4 i h' h'
     refine⟨this.1,fun k hk=>?_⟩
     cases k with
     |zero=>have:=h3 i h';simp only[aM,dP]at this;exact fun e=>this.1 e.symm
     |succ k=>exact this.2 k (by omega)
  ·rintro⟨h1,h2⟩
   refine⟨(h2 0 (by simp) (by simp)).1,h1 0 (by simp),fun i h=>?_,fun i h hj=>?_⟩
   ·simp only[aM,dP]
    exact⟨fun e=>(h2 (i+1) (by simpa using h) (by simpa using h)).2 0 (by omega) e.symm,h1 (i+1) (by simpa using h)⟩
   ·have:=h2 (i+1) (by simpa using h) (by simpa using h)
    exact⟨this.1,fun k hk=>this.2 (k+1) (by omega)⟩
def zv7{l:List (fC × Int)}(h:zne l l.length):zcu [] l=true:=(zjy l []).2 ⟨fun _ _=>by simp,h⟩
def zl0{l:List (fC × Int)}(h:¬zne l l.length):zcu [] l=false:=by
 cases e:zcu [] l with
 |false=>rfl
 |true=>exact absurd ((zjy l []).1 e).2 h
def tagZ(d:Coe)(k:Nat):Int:=d.tags.getD k 0
def ownC(d:Coe):Bool:=
 decide (d.tags.length=6/\d.names.length=d.fields.length/\(d.fn.length=0\/d.fn.length=2))&&
 (decide (¬(tagZ d 4≠0/\0<d.names.length\/tagZ d 5≠0/\0<d.fn.length))&&(zcu [] d.needs&&zdw d.names))
end Go.Gr
namespace Go.Gr
open Go.Abs Go.Proofs List
mutual
def mayC:Coe->Bool
 |.mk t n s f g=>ownC (.mk t n s f g)&&(zq2 f&&zhV g)
def zq2:List Coe->Bool
 |[]=>true
 |c::l=>(mayC c&& !za9 c idC)&&zq2 l
def zhV:List Coe->Bool
 |a::b::_=>mayC a&&(mayC b&& !(za9 a idC&&za9 b idC))
 |_=>true
end
def zs5:∀l:List Coe,zq2 l=l.all fun c=>mayC c&& !za9 c idC
 |[]=>by simp[zq2]
 |c::l=>by simp[zq2,zs5 l]
def zx4(d:Coe):mayC d=(ownC d&&((d.fields.all fun c=>mayC c&& !za9 c idC)&&zhV d.fn)):=by
 cases d;simp only[mayC,zs5,Coe.fields,Coe.fn]
def zBN:∀(x y:List UInt8),decide (0<=Lib.compareBytes x y)=(Op.bytesLess y x||decide (y=x))
 |[],[]=>by simp[Lib.compareBytes]
 |[],b::y=>by simp[Lib.compareBytes,Op.bytesLess]
 |a::x,[]=>by simp[Lib.compareBytes,Op.bytesLess]
 | a::x,b::y=>by
  have ih:=zBN x y
  simp only[Lib.compareBytes,Op.bytesLess]
  by_cases h1:a<b
  ·have h2:¬b<a:=fun h=>absurd (UInt8.lt_trans h1 h) (eU _)
   have h3:¬b=a:=fun h=>by rw[h]at h1;exact eU _ h1
   simp[h1,h2,h3]
  ·by_cases h2:b<a
   ·simp[h1,h2]
   ·have h3:b=a:=UInt8.le_antisymm (UInt8.not_lt.1 h1) (UInt8.not_lt.1 h2)
    subst h3
    simp only[h1,if_false,ih]
    simp
def zFk(a b:fC):leS a b=decide (0<=Lib.compareBytes b.data.toList a.data.toList):=by
 rw[zBN]
 unfold leS
 congr 1
 rw[dN]
 simp only[aI]
 constructor
 ·intro h;rw[h]
 ·intro h;exact Go.WideShapes.bytes_inj h
end Go.Gr
namespace Go.Gr
open Go.Abs Go.Proofs List
def hadM(l:List (fC × Int)):List (D × AV):=l.map fun x=>(.str x.1,.c (.d (.bool true)))
def zvf(s:fC):∀(l:List (fC × Int)) (i:Nat),(∀x,x∈l->s≠x.1)->mfind 1 (.str s) (hadM l) i=some none
 |[],i,_=>rfl
 |x::l,i,h=>by
  have h0:=h x (by simp)
  have ih:=zvf s l (i+1) fun y hy=>h y (by simp[hy])
  simp only[hadM]at ih
  simp[hadM,h0,ih]
def zvg(s:fC):∀(l:List (fC × Int)) (i:Nat),(∃x,x∈l/\s=x.1)->∃k,mfind 1 (.str s) (hadM l) i=some (some (k,.c (.d (.bool true))))
 |[],i,h=>by obtain⟨x,hx,_⟩:=h;cases hx
 | x::l,i,h=>by
  by_cases h0:s=x.1
  ·exact⟨i,by simp[hadM,h0]⟩
  ·obtain⟨y,hy,e⟩:=h
   have:∃y,y∈l/\s=y.1:=by
    cases aM.1 hy with
    |inl h=>subst h;exact absurd e h0
    |inr h=>exact⟨y,h,e⟩
   obtain⟨k,hk⟩:=zvg s l (i+1) this
   simp only[hadM]at hk
   exact⟨k,by simp[hadM,h0,hk]⟩
def zC9(f:Nat->Nat)(l:List (fC × Int)):(hadM l).map (fun e=>(e.1,AV.ren f e.2))=hadM l:=by simp[hadM]
def zwM(l:List (fC × Int))(x:fC × Int):hadM (l++[x])=hadM l++[(.str x.1,.c (.d (.bool true)))]:=by simp[hadM]
def zER{n:Nat}{l:List (fC × Int)}{a:D}{b:AV}(h:(a,b)∈hadM l):AV.lt n b=true:=by
 simp only[hadM,mem_map]at h
 obtain⟨x,_,e⟩:=h
 cases e
 simp
end Go.Gr
namespace Go.Gr
open Go.Abs Go.Proofs List
@[simp] theorem Coe.er_map(d:Coe):d.enc.map D.er=d.enc:=by rw[Coe.enc_eq];try rfl
def six0:List Int:=[0,0,0,0,0,0]
def zgU(x:fC × Int):List D:=[.str x.1,.int .i64 x.2]
def ix{α:Type}(q:α->Bool):Nat->List α->Int
 |_,[]=> -1
 |j,x::l=>if q x=true then(j:Int)else ix q (j+1) l
def zA2{α:Type}(q:α->Bool):∀(j:Nat) (l:List α),decide (0<=ix q j l)=l.any q
 |_,[]=>by simp[ix]
 | j,x::l=>by
  have ih:=zA2 q (j+1) l
  simp only[ix,any_cons]
  split
  ·rename_i h;rw[h,eZ];simp
  ·rename_i h
   rw[aK]at h
   rw[h,eP];exact ih
def zbi(a b:List (fC × Int)):List (fC × Int):=a++b.filter fun n=> !a.any fun m=>decide (m.1=n.1)
def zaB(c:Coe):Coe × Coe:=match c.fn with
 |f::g::_=>(f,g)
 |_=>(idC,idC)
def zbj(f g:Coe):List Coe:=if(za9 f idC&&za9 g idC)=true then []else [f,g]
end Go.Gr
namespace Go.Gr
open Go.Abs Go.Proofs Go.RowKit List
end Go.Gr
namespace Go.Gr
open Go.Abs Go.Proofs List
def noCZ:Coe:=.mk [] [] [] [] []
def atC(l:List (fC × Coe))(k:fC):Coe:=match l with
 |[]=>noCZ
 |x::l=>if k=x.1 then x.2 else atC l k
def outC(l:List (fC × Coe))(ks:List fC):List (fC × Coe):=(ks.map fun k=>(k,atC l k)).filter fun x=> !za9 x.2 idC
def zsy{l:List (fC × Coe)}{ks:List fC}{j:Nat}(h:j<ks.length):outC l (ks.take (j+1))=outC l (ks.take j)++if za9 (atC l ks[j]) idC=true then []else [(ks[j],atC l ks[j])]:=by
 unfold outC
 rw[aJ h,map_append,dF]
 by_cases q:za9 (atC l ks[j]) idC=true<;>simp[q]
def zvh(l:List (fC × Coe))(ks:List fC):(outC l ks).length<=ks.length:=by
 unfold outC
 exact ak (bV _ _) (by simp)
def zjm{l:List fC}{k:fC}:k∈zbs l↔k∈l:=by
 unfold zbs
 simp only[mem_map,mem_mergeSort]
 constructor
 ·rintro⟨x,⟨s,hs,rfl⟩,rfl⟩
  simpa using hs
 ·intro h
  exact⟨_,⟨k,h,rfl⟩,by simp⟩
end Go.Gr
namespace Go.Gr
open Go.Abs
def ltB(a b:fC):Prop:=a.data.toList<b.data.toList
instance ltBDec (a b:fC):Decidable (ltB a b):=inferInstanceAs (Decidable (a.data.toList<b.data.toList))
def zkW:∀(x y:List UInt8),Op.bytesLess x y=decide (x<y)
 |[],[]=>by simp[Op.bytesLess]
 |_::_,[]=>by simp[Op.bytesLess]
 |[],_::_=>by simp[Op.bytesLess]
 | a::x,b::y=>by
  rw[Op.bytesLess,zkW x y]
  by_cases h1:a<b
  ·simp[h1,dz]
  ·by_cases h2:b<a
   ·have:¬a=b:=fun e=>by rw[e]at h2;exact eU _ h2
    simp[h1,h2,this,dz]
   ·have:a=b:=UInt8.le_antisymm (UInt8.not_lt.1 h2) (UInt8.not_lt.1 h1)
    simp[this,dz,eU]
def zdU(a:fC):¬ltB a a:=List.lt_irrefl _
def zdP{a b c:fC}(h:ltB a b)(k:ltB b c):ltB a c:=List.lt_trans h k
def zhe{a b:fC}(h:a≠b):ltB a b\/ltB b a:=by
 by_cases h1:ltB a b
 ·exact .inl h1
 ·by_cases h2:ltB b a
  ·exact .inr h2
  ·have:a.data.toList=b.data.toList:=List.le_antisymm h2 h1
   exact absurd (Go.WideShapes.bytes_inj this) h
def zF3(a b:fC):(!leS b a)=decide (ltB a b):=by
 unfold leS ltB
 rw[zkW]
 by_cases h:a=b
 ·subst h;simp[List.lt_irrefl]
 ·have h':¬b=a:=fun e=>h e.symm
  rcases zhe h with q|q
  ·have:¬ltB b a:=fun e=>zdU _ (zdP q e)
   unfold ltB at q this
   simp[h',q,this]
  ·have:¬ltB a b:=fun e=>zdU _ (zdP q e)
   unfold ltB at q this
   simp[h',q,this]
def zqB:∀{l:List fC},zdw l=true↔l.Pairwise ltB
 |[]=>by simp[zdw]
 |[a]=>by simp[zdw]
 | a::b::l=>by
  rw[zdw,zF3,aD,aI,zqB (l:=b::l)]
  constructor
  ·rintro⟨h1,h2⟩
   refine List.Pairwise.cons (fun c hc=>?_) h2
   cases aM.1 hc with
   |inl e=>rw[e];exact h1
   |inr e=>exact zdP h1 (List.rel_of_pairwise_cons h2 e)
  ·intro h
   exact⟨List.rel_of_pairwise_cons h (by simp),h.of_cons⟩
def zbc{l:List fC}(h:l.Pairwise ltB):l.Nodup:=h.imp fun h e=>by rw[e]at h;exact zdU _ h
def zsC{l k:List fC}(h1:l.Pairwise ltB)(h2:k.Pairwise ltB)(h:∀x,x∈l↔x∈k):l=k:=
 List.Perm.eq_of_pairwise (le:=ltB) (fun a b _ _ p q=>absurd (zdP p q) (zdU _)) h1 h2 ((List.perm_ext_iff_of_nodup (zbc h1) (zbc h2)).2 h)
def zoo{l:List fC}(hn:l.Nodup):(zbs l).Pairwise ltB:=by
 have tr:∀a b c:List UInt8,decide (a<=b)=true->decide (b<=c)=true->decide (a<=c)=true:=fun a b c h1 h2=>by simp only[aI]at*;exact List.le_trans h1 h2
 have to:∀a b:List UInt8,(decide (a<=b)||decide (b<=a))=true:=fun a b=>by simp only[cu,aI];exact List.le_total a b
 have h1:=List.pairwise_mergeSort tr to (l.map fun s=>s.data.toList)
 have h2:((l.map fun s=>s.data.toList).mergeSort fun x y=>decide (x<=y)).Nodup:=by
  refine(List.mergeSort_perm _ _).nodup_iff.2 ?_
  refine List.pairwise_map.2 (hn.imp fun h e=>h (Go.WideShapes.bytes_inj e))
 unfold zbs
 rw[List.pairwise_map]
 refine(h1.and h2).imp fun {a b} ⟨p,q⟩=>?_
 simp only[aI]at p
 unfold ltB
 simp only
 rcases zhe (a:=⟨a.toArray⟩) (b:=⟨b.toArray⟩) (fun e=>q (by simpa using dL (fun x:fC=>x.data.toList) e))with r|r
 ·exact r
 ·exact absurd r p
mutual
def zdn:∀(a b:Coe),za9 a b=true↔a=b
 |.mk t n s f g,.mk t' n' s' f' g'=>by
  simp only[za9,aD,aI,Coe.mk.injEq]
  rw[zkX f f',zkX g g']
def zkX:∀(a b:List Coe),zco a b=true↔a=b
 |[],[]=>by simp[zco]
 |[],_::_=>by simp[zco]
 |_::_,[]=>by simp[zco]
 |a::l,b::k=>by
  simp only[zco,aD,dV]
  rw[zdn a b,zkX l k]
end
def ziL{a b:Coe}:za9 a b=false↔a≠b:=by
 rw[<-aK,zdn]
def zjn(a:Coe):za9 a a=true:=(zdn a a).2 rfl
def zy4(l:List (fC × Int)):zcu [] l=true↔(∀x,x∈l->x.2≠0)/\(l.map (·.1)).Nodup:=by
 have key:∀(l:List (fC × Int)) (seen:List fC),zcu seen l=true↔(∀x,x∈l->x.2≠0/\x.1∉seen)/\(l.map (·.1)).Nodup:=by
  intro l
  induction l with
  |nil=>intro seen;simp[zcu]
  | cons x l ih=>
   intro seen
   have hm:(!(seen.any fun y=>decide (y=x.1)))=true↔x.1∉seen:=by
    simp
    exact⟨fun h hx=>h _ hx rfl,fun h y hy e=>h (e▸hy)⟩
   simp only[zcu,aD,aI]
   rw[ih,hm]
   simp only[List.map_cons,bf,aM,dP]
   constructor
   ·rintro⟨h1,h2,h3,h4⟩
    refine⟨fun y hy=>?_,fun h=>?_,h4⟩
    ·rcases hy with rfl|hy
     ·exact⟨h1,h2⟩
     ·exact⟨(h3 y hy).1,(h3 y hy).2.2⟩
    ·obtain⟨y,hy,e⟩:=ai.1 h
     exact(h3 y hy).2.1 e
   ·rintro⟨h1,h2,h3⟩
    refine⟨(h1 x (.inl rfl)).1,(h1 x (.inl rfl)).2,fun y hy=>⟨(h1 y (.inr hy)).1,fun e=>h2 ?_,(h1 y (.inr hy)).2⟩,h3⟩
    exact ai.2 ⟨y,hy,e⟩
 rw[key]
 simp
def Coe.ext'{a b:Coe}(h1:a.tags=b.tags)(h2:a.needs=b.needs)(h3:a.names=b.names)(h4:a.fields=b.fields)(h5:a.fn=b.fn):a=b:=by
 cases a;cases b
 simp only[Coe.tags,Coe.needs,Coe.names,Coe.fields,Coe.fn]at*
 subst h1 h2 h3 h4 h5
 rfl
structure May (d:Coe):Prop where
 tags:d.tags.length=6
 len:d.names.length=d.fields.length
 fn:d.fn=[]\/∃f g,d.fn=[f,g]/\mayC f=true/\mayC g=true/\¬(f=idC/\g=idC)
 t4:tagZ d 4≠0->d.names=[]
 t5:tagZ d 5≠0->d.fn=[]
 needs:(∀x,x∈d.needs->x.2≠0)/\(d.needs.map (·.1)).Nodup
 names:d.names.Pairwise ltB
 fields:∀x,x∈d.fields->mayC x=true/\x≠idC
def zbR(d:Coe):mayC d=true↔May d:=by
 rw[zx4]
 unfold ownC
 simp only[aD,aI]
 rw[zy4,zqB,aa]
 constructor
 ·rintro⟨⟨⟨h1,h2,h3⟩,h4,h5,h6⟩,h7,h8⟩
  refine⟨h1,h2,?_,fun h=>?_,fun h=>?_,h5,h6,fun x hx=>?_⟩
  ·rcases h3 with h3|h3
   ·exact .inl (aT.1 h3)
   ·obtain⟨x,y,hxy⟩:∃x y,d.fn=[x,y]:=by
     match d.fn,h3 with
     |[x,y],_=>exact⟨x,y,rfl⟩
    rw[hxy,zhV]at h8
    simp only[aD,bE,Bool.and_eq_false_iff,ziL]at h8
    exact .inr ⟨x,y,hxy,h8.1,h8.2.1,fun⟨e1,e2⟩=>h8.2.2.elim (fun q=>q e1) (fun q=>q e2)⟩
  ·refine aT.1 ?_
   omega
  ·refine aT.1 ?_
   omega
  ·have:=h7 x hx
   simp only[aD,bE,ziL]at this
   exact this
 ·rintro⟨h1,h2,h3,h4,h5,h6,h7,h8⟩
  refine⟨⟨⟨h1,h2,?_⟩,?_,h6,h7⟩,fun x hx=>?_,?_⟩
  ·rcases h3 with h3|⟨f,g,h3,_⟩<;>rw[h3]<;>simp
  ·rintro(⟨q,r⟩|⟨q,r⟩)
   ·rw[h4 q]at r;simp at r
   ·rw[h5 q]at r;simp at r
  ·simp only[aD,bE,ziL]
   exact h8 x hx
  ·rcases h3 with h3|⟨f,g,h3,q1,q2,q3⟩
   ·rw[h3];try rfl
   ·rw[h3,zhV]
    simp only[aD,bE,Bool.and_eq_false_iff,ziL]
    refine⟨q1,q2,?_⟩
    by_cases e:f=idC
    ·exact .inr fun e'=>q3 ⟨e,e'⟩
    ·exact .inl e
end Go.Gr
namespace Go.Gr
open Go.Abs
instance memBDec (k:fC) (l:List fC):Decidable (k∈l):=decidable_of_iff (l.any (fun x=>decide (x=k))=true) (by simp)
def atN:List fC->List Coe->fC->Coe
 |n::ns,f::fs,k=>if k=n then f else atN ns fs k
 |_,_,_=>idC
def zaE(c:Coe)(k:fC):Coe:=atN c.names c.fields k
def zde:∀{ns:List fC} {fs:List Coe} {k:fC},k∉ns->atN ns fs k=idC
 |[],fs,k,h=>by simp[atN]
 |n::ns,[],k,h=>by simp[atN]
 |n::ns,f::fs,k,h=>by
  simp only[aM,dP]at h
  rw[atN,aB h.1,zde h.2]
def zkd:∀{ns:List fC} {fs:List Coe} {k:fC},ns.length=fs.length->k∈ns->atN ns fs k∈fs
 | n::ns,f::fs,k,e,h=>by
  rw[atN]
  split
  ·simp
  ·rename_i q
   have:=zkd (ns:=ns) (fs:=fs) (k:=k) (by simpa using e) ((aM.1 h).resolve_left q)
   simp[this]
 |_::_,[],_,e,_=>by simp at e
def zxP:∀{ns:List fC} {fs:List Coe} {j:Nat} (h:j<ns.length) (h':j<fs.length),ns.Nodup->atN ns fs ns[j]=fs[j]
 |n::ns,f::fs,0,_,_,_=>by simp[atN]
 |n::ns,f::fs,j+1,h,h',hn=>by
  simp only[bf]at hn
  simp only[List.getElem_cons_succ]
  have hj:j<ns.length:=by simpa using h
  have hne:¬ns[j]=n:=fun e=>hn.1 (e▸aS hj)
  rw[atN,aB hne]
  exact zxP _ _ hn.2
def zxQ:∀{ns:List fC} {fs gs:List Coe},ns.length=fs.length->ns.length=gs.length->ns.Nodup->(∀k,atN ns fs k=atN ns gs k)->fs=gs
 |[],[],[],_,_,_,_=>rfl
 | n::ns,f::fs,g::gs,h1,h2,hn,h=>by
  have h0:=h n
  simp only[bf]at hn
  simp only[atN,if_true]at h0
  rw[h0,zxQ (ns:=ns) (fs:=fs) (gs:=gs) (by simpa using h1) (by simpa using h2) hn.2 fun k=>by
   by_cases q:k=n
   ·rw[q,zde hn.1,zde hn.1]
   ·have:=h k
    simpa only[atN,aB q]using this]
 |[],f::fs,_,h1,_,_,_=>by simp at h1
 |[],[],g::gs,_,h2,_,_=>by simp at h2
 |n::ns,[],_,h1,_,_,_=>by simp at h1
 |n::ns,f::fs,[],_,h2,_,_=>by simp at h2
def ziM:mayC idC=true:=by decide
def May.idC:May idC:=(zbR _).1 ziM
def May.field{c:Coe}(h:May c)(k:fC):mayC (zaE c k)=true:=by
 unfold zaE
 by_cases q:k∈c.names
 ·exact(h.fields _ (zkd h.len q)).1
 ·rw[zde q];exact ziM
def May.field_ne{c:Coe}(h:May c){k:fC}:zaE c k≠Go.Gr.idC↔k∈c.names:=by
 unfold zaE
 constructor
 ·intro q
  exact Decidable.byContradiction fun e=>q (zde e)
 ·intro q
  exact(h.fields _ (zkd h.len q)).2
def May.pair{c:Coe}(h:May c):mayC (zaB c).1=true/\mayC (zaB c).2=true:=by
 unfold zaB
 rcases h.fn with e|⟨f,g,e,h1,h2,_⟩<;>rw[e]
 ·exact⟨ziM,ziM⟩
 ·exact⟨h1,h2⟩
def May.pair_fn{c:Coe}(h:May c):c.fn=zbj (zaB c).1 (zaB c).2:=by
 unfold zaB zbj
 rcases h.fn with e|⟨f,g,e,h1,h2,h3⟩<;>rw[e]
 ·simp[zjn]
 ·rw[aB]
  simp only[aD,zdn]
  exact h3
def zA4{c:Coe}{f g:Coe}(h:c.fn=zbj f g):zaB c=(f,g):=by
 unfold zaB
 rw[h]
 unfold zbj
 split
 ·rename_i x y l e
  split at e
  ·cases e
  ·cases e;rfl
 ·rename_i e
  split at e
  ·rename_i q
   simp only[aD,zdn]at q
   rw[q.1,q.2]
  ·exact absurd rfl (e _ _ _)
def May.ext{a b:Coe}(ha:May a)(hb:May b)(h1:a.tags=b.tags)(h2:a.needs=b.needs)(h3:∀k,zaE a k=zaE b k)(h4:zaB a=zaB b):a=b:=by
 have hn:a.names=b.names:=zsC ha.names hb.names fun k=>by
  rw[<-ha.field_ne,<-hb.field_ne,h3]
 refine Coe.ext' h1 h2 hn ?_ ?_
 ·refine zxQ ha.len (by rw[hn];exact hb.len) (zbc ha.names) fun k=>?_
  have:=h3 k
  unfold zaE at this
  rw[this,hn]
 ·rw[ha.pair_fn,hb.pair_fn,h4]
def zaX(a b:List Int):List Int:=List.zipWith (fun x y=>if x=0 then y else x) a b
def zdo(a b:Coe):List (fC × Int):=if tagZ a 4=0 then zbi a.needs b.needs else a.needs
def zgV(a b:Coe):List fC:=zbs (a.names++b.names.filter fun k=> !decide (k∈a.names))
def busy(l:List (fC × Coe)):List (fC × Coe):=l.filter fun x=> !za9 x.2 idC
def fsC(v:Coe->Coe->Coe)(a b:Coe):List (fC × Coe):=busy ((zgV a b).map fun k=>(k,v (zaE a k) (zaE b k)))
def zaz(v:Coe->Coe->Coe)(a b:Coe):Coe:=
 .mk (zaX a.tags b.tags) (zdo a b) (if(zaX a.tags b.tags).getD 4 0=0 then(fsC v a b).map (·.1)else []) (if(zaX a.tags b.tags).getD 4 0=0 then(fsC v a b).map (·.2)else [])
  (if(zaX a.tags b.tags).getD 5 0=0 then zbj (v (zaB b).1 (zaB a).1) (v (zaB a).2 (zaB b).2)else [])
def zbx:Nat->Coe->Coe->Coe
 |0,_,_=>idC
 |n+1,a,b=>zaz (zbx n) a b
def zA5{a b:List Int}(ha:a.length=6)(hb:b.length=6)(i:Nat):(zaX a b).getD i 0=if a.getD i 0=0 then b.getD i 0 else a.getD i 0:=by
 unfold zaX
 simp only[aH,List.getElem?_zipWith]
 by_cases h:i<6
 ·rw[aA (by omega),aA (by omega)]
  simp
 ·rw[aR (by omega),aR (by omega)]
  simp
def zhf{a b:List Int}(ha:a.length=6)(hb:b.length=6):(zaX a b).length=6:=by simp[zaX,ha,hb]
def zxR{a b:List Int}(ha:a.length=6)(hb:b.length=6)(h:∀i,a.getD i 0=b.getD i 0):a=b:=by
 refine List.ext_getElem (by omega) fun i h1 h2=>?_
 have:=h i
 simpa[aH,aA h1,aA h2]using this
def zxS{w:fC->Coe}:∀{ks:List fC},ks.Nodup->∀k,atN ((busy (ks.map fun k=>(k,w k))).map (·.1)) ((busy (ks.map fun k=>(k,w k))).map (·.2)) k=if k∈ks then w k else idC
 |[],_,k=>by simp[busy,atN]
 | x::ks,hn,k=>by
  simp only[bf]at hn
  have ih:=zxS (w:=w) hn.2 k
  by_cases q:za9 (w x) idC=true
  ·have e:busy ((x::ks).map fun k=>(k,w k))=busy (ks.map fun k=>(k,w k)):=by simp[busy,q]
   rw[e,ih]
   by_cases qk:k=x
   ·subst qk
    rw[aB hn.1,aC (by simp),(zdn _ _).1 q]
   ·simp[qk]
  ·have e:busy ((x::ks).map fun k=>(k,w k))=(x,w x)::busy (ks.map fun k=>(k,w k)):=by simp[busy,q]
   rw[e]
   simp only[List.map_cons,atN]
   by_cases qk:k=x
   ·subst qk;simp
   ·rw[aB qk,ih];simp[qk]
def zsD{a b:Coe}{k:fC}:k∈zgV a b↔k∈a.names\/k∈b.names:=by
 unfold zgV
 rw[zjm]
 simp only[aQ,bC,bE,bY]
 by_cases h:k∈a.names<;>simp[h]
def zop{a b:Coe}(ha:a.names.Nodup)(hb:b.names.Nodup):(a.names++b.names.filter fun k=> !decide (k∈a.names)).Nodup:=by
 refine bn.2 ⟨ha,hb.filter _,fun x hx y hy e=>?_⟩
 simp only[bC,bE,bY]at hy
 exact hy.2 (e▸hx)
def zoq{a b:Coe}(ha:May a)(hb:May b):(zgV a b).Pairwise ltB:=zoo (zop (zbc ha.names) (zbc hb.names))
section
variable {v:Coe->Coe->Coe} {a b:Coe}
def zfy(ha:May a)(hb:May b)(i:Nat):tagZ (zaz v a b) i=if tagZ a i=0 then tagZ b i else tagZ a i:=zA5 ha.tags hb.tags i
theorem zqC(ha:May a)(hb:May b)(v0:v idC idC=idC)(k:fC):zaE (zaz v a b) k=if tagZ (zaz v a b) 4=0 then v (zaE a k) (zaE b k)else idC:=by
 have ht:tagZ (zaz v a b) 4=(zaX a.tags b.tags).getD 4 0:=rfl
 have hN:(zaz v a b).names=if(zaX a.tags b.tags).getD 4 0=0 then(fsC v a b).map (·.1)else []:=rfl
 have hF:(zaz v a b).fields=if(zaX a.tags b.tags).getD 4 0=0 then(fsC v a b).map (·.2)else []:=rfl
 have hf:zaE (zaz v a b) k=atN (zaz v a b).names (zaz v a b).fields k:=rfl
 rw[ht,hf,hN,hF]
 split
 ·rename_i h
  unfold fsC
  rw[zxS (w:=fun k=>v (zaE a k) (zaE b k)) (zbc (zoq ha hb))]
  by_cases q:k∈zgV a b
  ·rw[aC q]
  ·rw[aB q]
   rw[zsD,dP]at q
   have e1:zaE a k=idC:=zde q.1
   have e2:zaE b k=idC:=zde q.2
   rw[e1,e2,v0]
 ·rename_i h
  rfl
theorem zsE(v0:v idC idC=idC):zaB (zaz v a b)=if tagZ (zaz v a b) 5=0 then(v (zaB b).1 (zaB a).1,v (zaB a).2 (zaB b).2)else(idC,idC):=by
 have ht:tagZ (zaz v a b) 5=(zaX a.tags b.tags).getD 5 0:=rfl
 rw[ht]
 split
 ·rename_i h
  refine zA4 ?_
  unfold zaz
  simp only[Coe.fn,h,if_true]
 ·rename_i h
  unfold zaB zaz
  simp only[Coe.fn,h,if_false]
def zwO{a b:List (fC × Int)}(ha:(a.map (·.1)).Nodup)(hb:(b.map (·.1)).Nodup):((zbi a b).map (·.1)).Nodup:=by
 unfold zbi
 rw[List.map_append]
 refine bn.2 ⟨ha,?_,fun x hx y hy e=>?_⟩
 ·exact List.Sublist.nodup (List.filter_sublist.map _) hb
 ·obtain⟨z,hz,rfl⟩:=ai.1 hy
  simp only[bC,bE,dE,aI]at hz
  obtain⟨u,hu,rfl⟩:=ai.1 hx
  exact hz.2 u hu e
theorem zpl(ha:May a)(hb:May b)(hv:∀x y,mayC x=true->mayC y=true->mayC (v x y)=true):May (zaz v a b) where
 tags:=zhf ha.tags hb.tags
 len:=by
  unfold zaz;simp only[Coe.names,Coe.fields]
  split<;>simp
 fn :=by
  unfold zaz;simp only[Coe.fn]
  split
  ·unfold zbj
   split
   ·exact .inl rfl
   ·rename_i q
    simp only[aD,zdn]at q
    exact .inr ⟨_,_,rfl,hv _ _ hb.pair.1 ha.pair.1,hv _ _ ha.pair.2 hb.pair.2,q⟩
  ·exact .inl rfl
 t4:=fun h=>by
  have ht:tagZ (zaz v a b) 4=(zaX a.tags b.tags).getD 4 0:=rfl
  rw[ht]at h
  unfold zaz;simp only[Coe.names,h,if_false]
 t5:=fun h=>by
  have ht:tagZ (zaz v a b) 5=(zaX a.tags b.tags).getD 5 0:=rfl
  rw[ht]at h
  unfold zaz;simp only[Coe.fn,h,if_false]
 needs:=by
  show(∀x,x∈zdo a b->x.2≠0)/\((zdo a b).map (·.1)).Nodup
  unfold zdo
  split
  ·refine⟨fun x hx=>?_,zwO ha.needs.2 hb.needs.2⟩
   unfold zbi at hx
   simp only[aQ,bC]at hx
   exact hx.elim (ha.needs.1 x) (fun h=>hb.needs.1 x h.1)
  ·exact ha.needs
 names:=by
  unfold zaz;simp only[Coe.names]
  split
  ·unfold fsC busy
   refine List.Pairwise.sublist (List.filter_sublist.map _) ?_
   rw[bJ]
   have:((fun x:fC × Coe=>x.1)∘fun k=>(k,v (zaE a k) (zaE b k)))=id:=rfl
   rw[this,List.map_id]
   exact zoq ha hb
  ·exact List.Pairwise.nil
 fields:=by
  unfold zaz;simp only[Coe.fields]
  split
  ·intro x hx
   unfold fsC busy at hx
   simp only[ai,bC,bE,ziL]at hx
   obtain⟨y,⟨⟨k,_,rfl⟩,h2⟩,rfl⟩:=hx
   exact⟨hv _ _ (ha.field k) (hb.field k),h2⟩
  ·intro x hx;cases hx
end
end Go.Gr
namespace Go.Gr
open Go.Abs
def inN:Nat->Coe->Prop
 |0,c=>c=idC
 |n+1,c=>(∀x,x∈c.fields->inN n x)/\∀x,x∈c.fn->inN n x
def zqD:∀n,inN n idC
 |0=>rfl
 |n+1=>⟨(fun x hx=>by cases hx),(fun x hx=>by cases hx)⟩
def zcY{n:Nat}{c:Coe}(h:inN (n+1) c)(hl:c.names.length=c.fields.length)(k:fC):inN n (zaE c k):=by
 unfold zaE
 by_cases q:k∈c.names
 ·exact h.1 _ (zkd hl q)
 ·rw[zde q];exact zqD n
def zbS{n:Nat}{c:Coe}(h:inN (n+1) c):inN n (zaB c).1/\inN n (zaB c).2:=by
 unfold zaB
 split
 ·rename_i f g l e
  exact⟨h.2 f (by rw[e];simp),h.2 g (by rw[e];simp)⟩
 ·exact⟨zqD n,zqD n⟩
theorem zqE(n:Nat)(a b:Coe):zbx (n+1) a b=zaz (zbx n) a b:=rfl
def znB:∀n,zbx n idC idC=idC
 |0=>rfl
 |n+1=>by
  have ih:=znB n
  simp[zbx,zaz,zaX,zdo,zbi,fsC,busy,zgV,zbs,zaB,idC,Coe.tags,Coe.needs,Coe.names,Coe.fields,Coe.fn,tagZ,zbj]at ih⊢
  rw[ih]
  simp[zjn]
def zkY:∀(n:Nat) (a b:Coe),mayC a=true->mayC b=true->mayC (zbx n a b)=true
 |0,_,_,_,_=>ziM
 |n+1,a,b,ha,hb=>(zbR _).2 (zpl ((zbR _).1 ha) ((zbR _).1 hb) (zkY n))
def znC:∀(n:Nat) {a b:Coe},mayC a=true->mayC b=true->inN n a->inN n b->inN n (zbx n a b)
 |0,_,_,_,_,_,_=>rfl
 | n +1,a,b,ma,mb,ha,hb=>by
  have Ma:=(zbR _).1 ma
  have Mb:=(zbR _).1 mb
  refine⟨fun x hx=>?_,fun x hx=>?_⟩
  ·unfold zbx zaz at hx
   simp only[Coe.fields]at hx
   split at hx
   ·unfold fsC busy at hx
    simp only[ai,bC]at hx
    obtain⟨y,⟨⟨k,_,rfl⟩,h2⟩,rfl⟩:=hx
    exact znC n (Ma.field k) (Mb.field k) (zcY ha Ma.len k) (zcY hb Mb.len k)
   ·cases hx
  ·unfold zbx zaz at hx
   simp only[Coe.fn]at hx
   split at hx
   ·unfold zbj at hx
    split at hx
    ·cases hx
    ·simp only[aM,List.not_mem_nil,eQ]at hx
     rcases hx with rfl|rfl
     ·exact znC n Mb.pair.1 Ma.pair.1 (zbS hb).1 (zbS ha).1
     ·exact znC n Ma.pair.2 Mb.pair.2 (zbS ha).2 (zbS hb).2
   ·cases hx
section
variable {a b c:Coe}
def May.field4(h:May a)(q:tagZ a 4≠0)(k:fC):zaE a k=Go.Gr.idC:=by
 unfold zaE
 rw[h.t4 q];exact zde (by simp)
def May.pair5(h:May a)(q:tagZ a 5≠0):zaB a=(Go.Gr.idC,Go.Gr.idC):=by
 unfold zaB
 rw[h.t5 q]
end
def zgb(i:Nat):tagZ idC i=0:=by
 unfold tagZ idC
 simp only[Coe.tags,aH]
 match i with
 |0|1|2|3|4|5=>rfl
 |i+6=>simp
theorem zvp(k:fC):zaE idC k=idC:=rfl
theorem zxT:zaB idC=(idC,idC):=rfl
def zdQ:∀(n:Nat) (a:Coe),inN n a->mayC a=true->zbx n a idC=a/\zbx n idC a=a
 |0,a,h,_=>by
  have:a=idC:=h
  rw[this];exact⟨rfl,rfl⟩
 | n +1,a,h,ma=>by
  have Ma:=(zbR _).1 ma
  have v0:=znB n
  have M1:May (zaz (zbx n) a idC):=zpl Ma May.idC (zkY n)
  have M2:May (zaz (zbx n) idC a):=zpl May.idC Ma (zkY n)
  constructor
  ·rw[zqE]
   refine May.ext M1 Ma (zxR M1.tags Ma.tags fun i=>?_) ?_ (fun k=>?_) ?_
   ·have:=zfy (v:=zbx n) Ma May.idC i
    rw[zgb]at this
    refine this.trans ?_
    split
    ·rename_i q;exact q.symm
    ·rfl
   ·show zdo a idC=a.needs
    unfold zdo
    split
    ·show zbi a.needs []=a.needs
     simp[zbi]
    ·rfl
   ·rw[zqC Ma May.idC v0,zfy Ma May.idC,zgb,zvp]
    by_cases q:tagZ a 4=0
    ·rw[aC (by rw[aC q])]
     exact(zdQ n _ (zcY h Ma.len k) (Ma.field k)).1
    ·rw[aB (by rw[aB q];exact q)]
     exact(Ma.field4 q k).symm
   ·rw[zsE v0,zfy Ma May.idC,zgb,zxT]
    by_cases q:tagZ a 5=0
    ·rw[aC (by rw[aC q])]
     rw[(zdQ n _ (zbS h).1 Ma.pair.1).2,(zdQ n _ (zbS h).2 Ma.pair.2).1]
    ·rw[aB (by rw[aB q];exact q)]
     exact(Ma.pair5 q).symm
  ·rw[zqE]
   refine May.ext M2 Ma (zxR M2.tags Ma.tags fun i=>?_) ?_ (fun k=>?_) ?_
   ·have:=zfy (v:=zbx n) May.idC Ma i
    rw[zgb,aC rfl]at this
    exact this
   ·show zdo idC a=a.needs
    unfold zdo
    rw[zgb,aC rfl]
    show zbi [] a.needs=a.needs
    unfold zbi
    simp
   ·rw[zqC May.idC Ma v0,zfy May.idC Ma,zgb,zvp,aC rfl]
    by_cases q:tagZ a 4=0
    ·rw[aC q]
     exact(zdQ n _ (zcY h Ma.len k) (Ma.field k)).2
    ·rw[aB q]
     exact(Ma.field4 q k).symm
   ·rw[zsE v0,zfy May.idC Ma,zgb,zxT,aC rfl]
    by_cases q:tagZ a 5=0
    ·rw[aC q]
     rw[(zdQ n _ (zbS h).1 Ma.pair.1).1,(zdQ n _ (zbS h).2 Ma.pair.2).2]
    ·rw[aB q]
     exact(Ma.pair5 q).symm
end Go.Gr
namespace Go.Gr
open Go.Abs Go.Proofs List
def setC:List (fC × Coe)->fC->Coe->List (fC × Coe)
 |[],k,d=>[(k,d)]
 |x::l,k,d=>if k=x.1 then(k,d)::l else x::setC l k d
def zi9{k:fC}{d:Coe}:∀{l:List (fC × Coe)},(setC l k d).map (·.1)=if k∈l.map (·.1)then l.map (·.1)else l.map (·.1)++[k]
 |[]=>by simp[setC]
 | x::l=>by
  by_cases e:k=x.1
  ·simp[setC,e]
  ·have hh:setC (x::l) k d=x::setC l k d:=by simp[setC,e]
   have ih:=zi9 (k:=k) (d:=d) (l:=l)
   rw[hh,map_cons,ih]
   by_cases q:k∈l.map (·.1)
   ·rw[aC q,aC (by simp only[map_cons,aM];exact .inr q),map_cons]
   ·rw[aB q,aB (by simp only[map_cons,aM,dP];exact⟨e,q⟩),map_cons,cons_append]
def zxe{k:fC}{d:Coe}:∀{l:List (fC × Coe)} {q:fC},atC (setC l k d) q=if q=k then d else atC l q
 |[],q=>by simp[setC,atC]
 | x::l,q=>by
  by_cases e:k=x.1
  ·subst e
   simp only[setC,if_true,atC]
   by_cases e':q=x.1<;>simp[e']
  ·simp only[setC,aB e,atC,zxe (l:=l)]
   by_cases e':q=x.1
   ·subst e'
    have:¬x.1=k:=fun h=>e h.symm
    simp[this]
   ·simp[e']
def ztV{k:fC}{d f:Coe}:∀{l:List (fC × Coe)},setC (setC l k f) k d=setC l k d
 |[]=>by simp[setC]
 |x::l=>by
  by_cases e:k=x.1
  ·simp[setC,e]
  ·simp[setC,e,ztV (l:=l)]
def six{l:List Int}(h:l.length=6):∃a b c d e f,l=[a,b,c,d,e,f]:=by
 match l,h with
 |[a,b,c,d,e,f],_=>exact⟨a,b,c,d,e,f,rfl⟩
def upT(L:List Int)(j:Nat):List Int:=L.take j++List.replicate (6-j) 0
def zxf{L:List Int}(hL:L.length=6){j:Nat}(h:j<6):(upT L j).set j L[j]=upT L (j+1):=by
 obtain⟨a,b,c,d,e,f,rfl⟩:=six hL
 match j,h with
 |0,_|1,_|2,_|3,_|4,_|5,_=>rfl
def ztW(l:List Int)(j:Nat)(x:Int):encI (l.set j x)=(encI l).set j [.int .i64 x]:=by simp[encI,fB]
def zpO(v:Coe->Coe->Coe)(a b:Coe)(j:Nat)(l:List (fC × Coe)):Prop:=
 l.map (·.1)=a.names++(b.names.take j).filter (fun k=> !decide (k∈a.names))/\∀k,k∈l.map (·.1)->atC l k=if k∈b.names.take j then v (zaE a k) (zaE b k)else zaE a k
end Go.Gr
namespace Go.Gr
open Go.Abs Go.Proofs List
structure Small1 (B:Nat) (d:Coe):Prop where
 needs:d.needs.length<=B
 fields:d.fields.length<=B
 fn:d.fn.length<=B
def zd5{l:List Int}(h:l.length=6){i:Nat}(hi:i<6):l[i]?=some (l.getD i 0):=by
 rw[aH,aA (by omega)];try rfl
def zgu{α:Type}{l:List α}(h:l.Nodup){j:Nat}(hj:j<l.length):l[j]∉l.take j:=fun hm=>by
 obtain⟨i,hi,e⟩:=bM hm
 rw[getElem_take]at e
 have hi':i<j:=by simp at hi;omega
 exact(cZ.1 h) i j (by omega) hj hi' e
def zCj{α:Type}{l:List α}{j:Nat}(hj:j<l.length){k:α}:k∈l.take (j+1)↔k∈l.take j\/k=l[j]:=by
 rw[aJ hj,aQ,aL]
def zoN{l:List fC}{f:List Coe}(h:l.length=f.length):(l.zip f).map (·.1)=l:=by
 rw[map_fst_zip (by omega)]
def zs9{l:List fC}{f:List Coe}(h:l.length=f.length){j:Nat}:((l.zip f).take j).map (·.1)=l.take j:=by
 rw[map_take,zoN h]
def zAd:∀{l:List fC} {f:List Coe} {k:fC},l.length=f.length->k∈l->atC (l.zip f) k=atN l f k
 | n::l,x::f,k,h,hk=>by
  simp only[zip_cons_cons,atC,atN]
  split
  ·rfl
  ·rename_i q
   exact zAd (by simpa using h) ((aM.1 hk).resolve_left q)
 |_::_,[],_,h,_=>by simp at h
def zEq{v:Coe->Coe->Coe}{a b:Coe}(Ma:May a):zpO v a b 0 (a.names.zip a.fields):=by
 refine⟨by rw[zoN Ma.len];simp,fun k hk=>?_⟩
 rw[zoN Ma.len]at hk
 simp
 exact zAd Ma.len hk
def zEr{v:Coe->Coe->Coe}{a b:Coe}{j:Nat}{l:List (fC × Coe)}(Ma:May a)(Mb:May b)(hj:j<b.names.length)(h:zpO v a b j l){d:Coe}(hd:d=v (zaE a b.names[j]) (zaE b b.names[j])):
  zpO v a b (j+1) (setC l b.names[j] d):=by
 obtain⟨h1,h2⟩:=h
 have hnd:=zbc Mb.names
 have hnot:b.names[j]∉b.names.take j:=zgu hnd hj
 constructor
 ·rw[zi9,h1,aJ hj,dF]
  by_cases q:b.names[j]∈a.names
  ·rw[aC (by simp[q])];simp[q]
  ·rw[aB (by simp only[aQ,bC,dP];exact⟨q,fun h=>hnot h.1⟩)];simp[q]
 ·intro k hk
  rw[zxe]
  simp only[zCj hj]
  by_cases q:k=b.names[j]
  ·subst q;simp[hd]
  ·rw[aB q]
   have hk':k∈l.map (·.1):=by
    rw[zi9]at hk
    split at hk
    ·exact hk
    ·simp only[aQ,aL]at hk
     exact hk.resolve_right q
   rw[h2 k hk']
   simp[q]
abbrev box5:Blk:=.box [.d (.sl true 1 []),.d (.sl true 2 []),.d (.sl true 1 []),.d (.sl true 5 []),.d (.sl true 5 [])]
abbrev boxT(T:List Int)(N:List (fC × Int)):Blk:=.box [.d (.sl false 1 (encI T)),.d (.sl false 2 (encN N)),.d (.sl true 1 []),.d (.sl true 5 []),.d (.sl true 5 [])]
abbrev znn(a b:Coe):List (Nat × AV):=[(2,.c (.d (.rp a.enc 0))),(3,.c (.d (.rp b.enc 0))),(4,.c (.ptr 0 0)),(5,.c (.ptr 2 0))]
end Go.Gr
namespace Go.Gr
open Go.Abs Go.Proofs List
@[simp] theorem zHa:encN []=[]:=rfl
@[simp] theorem zHb:encI []=[]:=rfl
def St.forget{F:St->Prop}{t:List (Nat × AV)}{m:Hp}{n:Nat}(R:List (Nat × AV)->Hp->Prop)(hr:R t m)(h:∀T M,R T M->F ⟨T,M,n⟩):F ⟨t,m,n⟩:=h t m hr
def May.fn_len{c:Coe}(h:May c):c.fn.length=0\/c.fn.length=2:=by
 rcases h.fn with e|⟨f,g,e,_⟩<;>rw[e]<;>simp
end Go.Gr
namespace Go.Gr
open Go.Abs Go.Proofs List
mutual
def smC(B:Nat):Coe->Prop
 |.mk t n s f g=>n.length<=B/\f.length<=B/\g.length<=B/\smCs B f/\smCs B g
def smCs(B:Nat):List Coe->Prop
 |[]=>True
 |c::l=>smC B c/\smCs B l
end
def ztX(B:Nat):∀l:List Coe,smCs B l↔∀x,x∈l->smC B x
 |[]=>by simp[smCs]
 |c::l=>by simp[smCs,ztX B l]
def zdI(B:Nat)(d:Coe):smC B d↔d.needs.length<=B/\d.fields.length<=B/\d.fn.length<=B/\(∀x,x∈d.fields->smC B x)/\∀x,x∈d.fn->smC B x:=by
 cases d
 simp only[smC,ztX,Coe.needs,Coe.fields,Coe.fn]
def zfU(B:Nat):smC B idC:=by simp[smC,idC,smCs]
def zja{B:Nat}{c:Coe}(h:smC B c)(hl:c.names.length=c.fields.length)(k:fC):smC B (zaE c k):=by
 unfold zaE
 by_cases q:k∈c.names
 ·exact((zdI B c).1 h).2.2.2.1 _ (zkd hl q)
 ·rw[zde q];exact zfU B
def zeq{B:Nat}{c:Coe}(h:smC B c):smC B (zaB c).1/\smC B (zaB c).2:=by
 have h':=((zdI B c).1 h).2.2.2.2
 unfold zaB
 split
 ·rename_i f g l e
  rw[e]at h'
  exact⟨h' f (by simp),h' g (by simp)⟩
 ·exact⟨zfU B,zfU B⟩
def zjb{B:Nat}{c:Coe}(h:smC B c):Small1 B c:=by
 have:=(zdI B c).1 h
 exact⟨this.1,this.2.1,this.2.2.1⟩
def ztY{B B':Nat}(hB:B<=B'):∀(n:Nat) {c:Coe},inN n c->smC B c->smC B' c
 |0,c,hn,h=>by
  have:c=idC:=hn
  rw[this];exact zfU B'
 |n+1,c,hn,h=>by
  rw[zdI]at h⊢
  exact⟨by omega,by omega,by omega,fun x hx=>ztY hB n (hn.1 x hx) (h.2.2.2.1 x hx),fun x hx=>ztY hB n (hn.2 x hx) (h.2.2.2.2 x hx)⟩
def zyr(a b:List (fC × Int)):(zbi a b).length<=a.length+b.length:=by
 unfold zbi
 have:=bV (fun n:fC × Int=> !a.any fun m=>decide (m.1=n.1)) b
 rw[aX];omega
def zAe(a b:Coe):(zgV a b).length<=a.names.length+b.names.length:=by
 unfold zgV zbs
 have:=bV (fun k=> !decide (k∈a.names)) b.names
 simp only[aU,length_mergeSort,aX];omega
def zkG{A B:Nat}(hAB:2<=A+B):∀(n:Nat) {a b:Coe},inN n a->inN n b->mayC a=true->mayC b=true->smC A a->smC B b->smC (A+B) (zbx n a b)/\smC (A+B) (zbx n b a)
 |0,_,_,_,_,_,_,_,_=>⟨zfU _,zfU _⟩
 | n +1,a,b,ia,ib,ma,mb,sa,sb=>by
  have Ma:=(zbR _).1 ma
  have Mb:=(zbR _).1 mb
  have ta:=(zdI A a).1 sa
  have tb:=(zdI B b).1 sb
  have la:=Ma.len
  have lb:=Mb.len
  have ihf:=fun k=>zkG hAB n (zcY ia Ma.len k) (zcY ib Mb.len k) (Ma.field k) (Mb.field k) (zja sa Ma.len k) (zja sb Mb.len k)
  have ih1:=zkG hAB n (zbS ia).1 (zbS ib).1 Ma.pair.1 Mb.pair.1 (zeq sa).1 (zeq sb).1
  have ih2:=zkG hAB n (zbS ia).2 (zbS ib).2 Ma.pair.2 Mb.pair.2 (zeq sa).2 (zeq sb).2
  have key:∀(c d:Coe),c.needs.length+d.needs.length<=A+B->c.names.length+d.names.length<=A+B->(∀k,smC (A+B) (zbx n (zaE c k) (zaE d k)))->smC (A+B) (zbx n (zaB d).1 (zaB c).1)->smC (A+B) (zbx n (zaB c).2 (zaB d).2)->smC (A+B) (zaz (zbx n) c d):=fun c d h1 h2 h3 h4 h5=>by
   rw[zdI]
   have hb:(fsC (zbx n) c d).length<=A+B:=by
    unfold fsC busy
    refine ak (bV _ _) ?_
    rw[aU]
    exact ak (zAe c d) h2
   refine⟨?_,?_,?_,?_,?_⟩
   ·show(zdo c d).length<=A+B
    unfold zdo
    split
    ·exact ak (zyr _ _) h1
    ·omega
   ·unfold zaz;simp only[Coe.fields]
    split
    ·rw[aU];exact hb
    ·simp
   ·unfold zaz;simp only[Coe.fn]
    split
    ·unfold zbj;split
     ·simp
     ·simpa using hAB
    ·simp
   ·intro x hx
    unfold zaz at hx;simp only[Coe.fields]at hx
    split at hx
    ·unfold fsC busy at hx
     simp only[mem_map,bC]at hx
     obtain⟨y,⟨⟨k,_,rfl⟩,_⟩,rfl⟩:=hx
     exact h3 k
    ·cases hx
   ·intro x hx
    unfold zaz at hx;simp only[Coe.fn]at hx
    split at hx
    ·unfold zbj at hx
     split at hx
     ·cases hx
     ·simp only[aM,cz,eQ]at hx
      rcases hx with rfl|rfl
      ·exact h4
      ·exact h5
    ·cases hx
  exact⟨key a b (by omega) (by omega) (fun k=>(ihf k).1) ih1.2 ih2.1,key b a (by omega) (by omega) (fun k=>(ihf k).2) ih1.1 ih2.2⟩
def ztp(n:Nat)(a b:Coe):Coe:=if(mayC a&&mayC b)=true then zbx n a b else noCZ
end Go.Gr
namespace Go.Gr
open Go.Abs Go.Proofs
def zuh(a b:fC):Op.bytesLess a.data.toList b.data.toList=decide (ltB a b):=zkW _ _
structure Mrg (a b:List fC) (i k:Nat) (l:List fC):Prop where
 hi:i<=a.length
 hk:k<=b.length
 len:l.length<=i+k
 rises:l.Pairwise ltB
 mem:∀x,x∈l↔x∈a.take i\/x∈b.take k
 la:∀x,x∈l->∀j (h:j<a.length),i<=j->ltB x a[j]
 lb:∀x,x∈l->∀j (h:j<b.length),k<=j->ltB x b[j]
end Go.Gr
namespace Go.Gr
open Go.Abs Go.Proofs
structure RcH (v:Coe->Coe->Coe) (a b:Coe):Prop where
 Ma:May a
 Mb:May b
 v0:v idC idC=idC
 sa:Small1 536870912 a
 sb:Small1 536870912 b
 H1:∀k,k∈zgV a b->PCall Pg 69 [.agg (zaE a k).enc,.agg (zaE b k).enc] (.agg (v (zaE a k) (zaE b k)).enc)
 H2:0<a.fn.length+b.fn.length->PCall Pg 69 [.agg (zaB b).1.enc,.agg (zaB a).1.enc] (.agg (v (zaB b).1 (zaB a).1).enc)
 H3:0<a.fn.length+b.fn.length->PCall Pg 69 [.agg (zaB a).2.enc,.agg (zaB b).2.enc] (.agg (v (zaB a).2 (zaB b).2).enc)
end Go.Gr
namespace Go.Gr
open Go.Abs Go.Proofs
def putR(C:Coe)(k:fC)(d:Coe):Coe:=if za9 d idC=true then C else .mk C.tags C.needs (C.names++[k]) (C.fields++[d]) C.fn
def zbA(C:Coe)(k:fC)(lb:Int):Coe:=.mk C.tags (C.needs++[(k,lb)]) C.names C.fields C.fn
def mkA(v:Typ->Typ->Int->Coe)(lb:Int):List fC->List Typ->Coe->Coe
 |k::ks,t::ts,C=>mkA v lb ks ts (putR C k (v t noT lb))
 |_,_,C=>C
def mkB(v:Typ->Typ->Int->Coe)(m:Prt)(lb:Int):List fC->List Typ->Coe->Coe
 |k::ks,t::ts,C=>
  let c1:=if(zaD m.t k).2=false then zbA C k lb else C
  mkB v m lb ks ts (if(zaD m.t k).2=true\/m.opn=true then putR c1 k (v (zaD m.t k).1 t lb)else c1)
 |_,_,C=>C
def mkR(v:Typ->Typ->Int->Coe)(m n:Prt)(lb:Int)(C:Coe):Coe:=
 if n.opn=true then(if m.opn=true then C else mkA v lb m.t.names m.t.kids C)else mkB v m lb n.t.names n.t.kids C
@[simp] theorem Prt.gt0(p:Prt)(h:0<p.enc.length):p.enc[0]=.int .i64 p.tag:=rfl
@[simp] theorem Prt.gt1(p:Prt)(h:1<p.enc.length):p.enc[1]=.bool p.opn:=rfl
@[simp] theorem zgM(C:Coe)(k:fC)(lb:Int):(zbA C k lb).needs=C.needs++[(k,lb)]:=rfl
@[simp] theorem zFd(C:Coe)(k:fC)(lb:Int):(zbA C k lb).names=C.names:=rfl
@[simp] theorem zFe(C:Coe)(k:fC)(lb:Int):(zbA C k lb).fields=C.fields:=rfl
def flp(x:Int):Int:=if x%2=0 then x+1 else x-1
def zrt(n:Nat):((n^^^1:Nat):Int)=flp n:=by
 have h1:(n^^^1)/2=n/2:=by rw[Nat.xor_div_two];simp
 have h2:(n^^^1)%2=(n+1)%2:=by
  have:=Nat.xor_mod_two_pow (a:=n) (b:=1) (n:=1)
  simp only[Nat.pow_one]at this
  rw[this]
  have h:n%2=0\/n%2=1:=by omega
  rcases h with h|h<;>rw[h]<;>simp<;>omega
 unfold flp
 split<;>omega
theorem zxE{lb:Int}(h0:0<=lb)(h1:lb<=9223372036854775807):IntKind.i64.wrap (((lb%2^IntKind.i64.bits).toNat^^^1%2^IntKind.i64.bits:Nat):Int)=flp lb:=by
 obtain⟨n,rfl⟩:∃n:Nat,lb=n:=⟨lb.toNat,by omega⟩
 have e1:(((n:Int)%2^IntKind.i64.bits).toNat)=n:=by
  show((n:Int)%18446744073709551616).toNat=n
  omega
 have e2:1%2^IntKind.i64.bits=1:=rfl
 rw[e1,e2,zrt]
 have h2:flp (n:Int)<=9223372036854775807/\0<=flp (n:Int):=by unfold flp;split<;>omega
 exact wI
def setT(C:Coe)(i:Nat)(x:Int):Coe:=.mk (C.tags.set i x) C.needs C.names C.fields C.fn
def setG(C:Coe)(g:List Coe):Coe:=.mk C.tags C.needs C.names C.fields g
def zfh(v:Typ->Typ->Int->Coe)(R:List Prt)(lb:Int)(m:Prt)(C:Coe):Coe:=
 if(zaM R m.tag).2=false then setT C m.tag.toNat lb
 else if m.tag=5 then setG C (zbj (v (kid0 (zaM R 5).1.t) (kid0 m.t) (flp lb)) (v (kid1 m.t) (kid1 (zaM R 5).1.t) lb))
 else if m.tag=4 then mkR v m (zaM R 4).1 lb C else C
def zdE(v:Typ->Typ->Int->Coe)(R:List Prt)(lb:Int):List Prt->Coe->Coe
 |[],C=>C
 |m::l,C=>zdE v R lb l (zfh v R lb m C)
def zc6:Nat->Typ->Typ->Int->Coe
 |0,_,_,_=>idC
 |n+1,a,b,lb=>if a.kind=0/\b.kind=0 then idC else zdE (zc6 n) (zaL b) lb (zaL a) idC
def zst(C:Coe)(k:fC)(d:Coe):(putR C k d).tags=C.tags/\(putR C k d).fn=C.fn:=by
 unfold putR
 split<;>exact⟨rfl,rfl⟩
def zuZ(v:Typ->Typ->Int->Coe)(lb:Int):∀(ns:List fC) (ks:List Typ) (C:Coe),(mkA v lb ns ks C).tags=C.tags/\(mkA v lb ns ks C).fn=C.fn
 |[],_,C=>by rw[mkA];exact⟨rfl,rfl⟩;intros;contradiction
 |_::_,[],C=>by rw[mkA];exact⟨rfl,rfl⟩;intros;contradiction
 |n::ns,k::ks,C=>by
  rw[mkA]
  have h:=zuZ v lb ns ks (putR C n (v k noT lb))
  have h2:=zst C n (v k noT lb)
  exact⟨h.1.trans h2.1,h.2.trans h2.2⟩
def zu0(v:Typ->Typ->Int->Coe)(m:Prt)(lb:Int):∀(ns:List fC) (ks:List Typ) (C:Coe),(mkB v m lb ns ks C).tags=C.tags/\(mkB v m lb ns ks C).fn=C.fn
 |[],_,C=>by rw[mkB];exact⟨rfl,rfl⟩;intros;contradiction
 |_::_,[],C=>by rw[mkB];exact⟨rfl,rfl⟩;intros;contradiction
 | n::ns,k::ks,C=>by
  rw[mkB]
  have h1:(if(zaD m.t n).2=false then zbA C n lb else C).tags=C.tags/\(if(zaD m.t n).2=false then zbA C n lb else C).fn=C.fn:=by split<;>exact⟨rfl,rfl⟩
  generalize (if(zaD m.t n).2=false then zbA C n lb else C)=c1 at*
  have h:=zu0 v m lb ns ks (if(zaD m.t n).2=true\/m.opn=true then putR c1 n (v (zaD m.t n).1 k lb)else c1)
  have h2:(if(zaD m.t n).2=true\/m.opn=true then putR c1 n (v (zaD m.t n).1 k lb)else c1).tags=c1.tags/\(if(zaD m.t n).2=true\/m.opn=true then putR c1 n (v (zaD m.t n).1 k lb)else c1).fn=c1.fn:=by
   split
   ·exact zst _ _ _
   ·exact⟨rfl,rfl⟩
  exact⟨h.1.trans (h2.1.trans h1.1),h.2.trans (h2.2.trans h1.2)⟩
def zpb(v:Typ->Typ->Int->Coe)(m n:Prt)(lb:Int)(C:Coe):(mkR v m n lb C).tags=C.tags/\(mkR v m n lb C).fn=C.fn:=by
 unfold mkR
 split
 ·split
  ·exact⟨rfl,rfl⟩
  ·exact zuZ v lb _ _ _
 ·exact zu0 v m lb _ _ _
abbrev boxM(p:Prt):Blk:=.box (p.enc.map .d)
structure MadeH (v:Typ->Typ->Int->Coe) (L R:List Prt) (lb:Int):Prop where
 dis:(L.map (·.tag)).Nodup
 tag:∀m,m∈L->0<=m.tag/\m.tag<6
 fn:∀m n,m∈L->n∈R->m.tag=5->n.tag=5->m.t.kids.length=2/\n.t.kids.length=2/\PCall Pg 67 [.agg (kid0 n.t).enc,.agg (kid0 m.t).enc,.one (.int .i64 (flp lb))] (.agg (v (kid0 n.t) (kid0 m.t) (flp lb)).enc)/\PCall Pg 67 [.agg (kid1 m.t).enc,.agg (kid1 n.t).enc,.one (.int .i64 lb)] (.agg (v (kid1 m.t) (kid1 n.t) lb).enc)
 rc:∀m n,m∈L->n∈R->m.tag=4->n.tag=4->m.t.names.length<=m.t.kids.length/\n.t.names.length<=n.t.kids.length/\m.t.kids.length<=1000/\n.t.kids.length<=1000/\
  (∀a,a∈m.t.kids->PCall Pg 67 [.agg a.enc,.agg noT.enc,.one (.int .i64 lb)] (.agg (v a noT lb).enc))/\
  (∀k a,a∈n.t.kids->PCall Pg 67 [.agg (zaD m.t k).1.enc,.agg a.enc,.one (.int .i64 lb)] (.agg (v (zaD m.t k).1 a lb).enc))
end Go.Gr
namespace Go.Gr
open Go.Abs Go.Proofs List
mutual
def ordT:Typ->Prop
 |.mk k _ s l=>s.Pairwise ltB/\(k=7->(l.map zaj).Pairwise (· < ·)/\2<=l.length)/\zhP l
def zhP:List Typ->Prop
 |[]=>True
 |t::l=>ordT t/\zhP l
end
def zsv:∀l:List Typ,zhP l↔∀x,x∈l->ordT x
 |[]=>by simp[zhP]
 |t::l=>by simp[zhP,zsv l]
def zcb(t:Typ):ordT t↔t.names.Pairwise ltB/\(t.kind=7->(t.kids.map zaj).Pairwise (· < ·)/\2<=t.kids.length)/\∀x,x∈t.kids->ordT x:=by
 cases t;rw[ordT,zsv];try rfl
def NF(t:Typ):Prop:=wfT t/\ordT t
def NF.kid{t x:Typ}(h:NF t)(hx:x∈t.kids):NF x:=⟨zdZ h.1 hx,((zcb t).1 h.2).2.2 x hx⟩
def NF.base(k:Int)(h0:0<=k)(h4:k<=4):NF (bT k):=⟨zcp k h0 h4,by simp[ordT,bT,zhP];omega⟩
def NF.no:NF noT:=NF.base 0 (by omega) (by omega)
def NF.bt5:NF (bT 5):=⟨(zaQ _).2 ⟨rfl,fun x h=>(by cases h),.inr (.inl ⟨rfl,rfl,by decide,fun x h=>(by cases h)⟩)⟩,by simp[ordT,bT,zhP]⟩
def NF.fn{a b:Typ}(ha:NF a)(hb:NF b):NF (.mk 6 (bs []) [] [a,b]):=⟨(zaQ _).2 ⟨rfl,fun x h=>by
  simp only[Typ.kids,aM,cz,eQ]at h
  rcases h with rfl|rfl
  ·exact ha.1
  ·exact hb.1,.inr (.inr (.inl ⟨rfl,rfl,rfl⟩))⟩,by simp[ordT,zhP];exact⟨ha.2,hb.2⟩⟩
def zu6{t:Typ}(h:wfT t)(h0:t.kind≠0)(h7:t.kind≠7):zaj t=t.kind-1/\1<=t.kind/\t.kind<=6:=by
 have hk:1<=t.kind/\t.kind<=6:=by
  rcases((zaQ t).1 h).2.2 with⟨a,b,_⟩|⟨a,_⟩|⟨a,_⟩|⟨a,_⟩<;>omega
 refine⟨?_,hk⟩
 unfold zaj
 rw[aB (by omega)]
theorem zkR{t:Typ}(h:NF t):((zaL t).map (·.tag)).Nodup/\∀p,p∈zaL t->0<=p.tag/\p.tag<6/\NF p.t/\(p.tag=5->p.t.kids.length=2)/\(∀x,x∈p.t.kids->dpt x+(if t.kind=0 then 0 else 1)<=dpt t)/\(p.tag=4->∀x,x∈p.t.kids->dpt x+1<=dpt t):=by
 have d1:=zd7 t
 unfold zaL
 by_cases h0:t.kind=0
 ·rw[aC h0]
  refine⟨by decide,fun p hp=>?_⟩
  have e0:dpt noT=1:=rfl
  simp only[aM,cz,eQ]at hp
  simp only[h0,aC]
  rcases hp with rfl|rfl|rfl|rfl|rfl|rfl
  ·exact⟨by decide,by decide,NF.base 1 (by omega) (by omega),fun h=>absurd h (by decide),fun x hx=>(by cases hx),fun _ x hx=>(by cases hx)⟩
  ·exact⟨by decide,by decide,NF.base 2 (by omega) (by omega),fun h=>absurd h (by decide),fun x hx=>(by cases hx),fun _ x hx=>(by cases hx)⟩
  ·exact⟨by decide,by decide,NF.base 3 (by omega) (by omega),fun h=>absurd h (by decide),fun x hx=>(by cases hx),fun _ x hx=>(by cases hx)⟩
  ·exact⟨by decide,by decide,NF.base 4 (by omega) (by omega),fun h=>absurd h (by decide),fun x hx=>(by cases hx),fun _ x hx=>(by cases hx)⟩
  ·exact⟨by decide,by decide,NF.bt5,fun h=>absurd h (by decide),fun x hx=>(by cases hx),fun _ x hx=>(by cases hx)⟩
  ·refine⟨by decide,by decide,NF.fn NF.no NF.no,fun _=>rfl,fun x hx=>?_,fun h=>absurd h (by decide)⟩
   simp only[Typ.kids,aM,cz,eQ]at hx
   rcases hx with rfl|rfl<;>omega
 ·rw [aB h0]
  by_cases h7:t.kind=7
  ·rw[aB (by omega)]
   have ho:=((zcb t).1 h.2).2.1 h7
   refine⟨?_,fun p hp=>?_⟩
   ·rw[bJ]
    have he:((fun x:Prt=>x.tag)∘fun k=>(⟨zaj k,false,k⟩:Prt))=zaj:=rfl
    rw[he]
    exact ho.1.imp fun h=>by omega
   ·obtain⟨x,hx,rfl⟩:=ai.1 hp
    have hk:1<=x.kind/\x.kind<=6:=by
     rcases((zaQ t).1 h.1).2.2 with⟨_,q,_⟩|⟨q,_⟩|⟨q,_⟩|⟨_,_,_,q⟩
     ·omega
     ·omega
     ·omega
     ·exact q x hx
    have ht:=(zu6 (h.kid hx).1 (by omega) (by omega)).1
    simp only
    have hd:∀y,y∈x.kids->dpt y+1<=dpt t:=fun y hy=>by
     have:=zcH hy
     have:=zcH hx
     omega
    refine⟨by omega,by omega,h.kid hx,fun q=>zjT (h.kid hx).1 (by omega),fun y hy=>?_,fun _=>hd⟩
    rw[aB h0];exact hd y hy
  ·rw[aC h7]
   refine⟨by simp,fun p hp=>?_⟩
   simp only[aL]at hp
   subst hp
   have ht:=zu6 h.1 h0 h7
   simp only
   refine⟨by omega,by omega,h,fun q=>zjT h.1 (by omega),fun y hy=>?_,fun _ y hy=>zcH hy⟩
   have:=zcH hy
   rw[aB h0];omega
def zqz(v:Typ->Typ->Int->Coe)(R:List Prt)(lb:Int):∀(L:List Prt) (C:Coe),(zdE v R lb L C).tags.length=C.tags.length
 |[],C=>rfl
 |m::l,C=>by
  rw[zdE,zqz v R lb l]
  unfold zfh
  split
  ·simp[setT,Coe.tags]
  split
  ·rfl
  split
  ·rw[(zpb _ _ _ _ _).1]
  ·rfl
def zsw{lb:Int}(h0:0<=lb)(h1:lb<=9223372036854775807):0<=flp lb/\flp lb<=9223372036854775807:=by unfold flp;split<;>omega
def NF.field{t:Typ}(h:NF t)(k:fC):NF (zaD t k).1/\((zaD t k).1∈t.kids\/(zaD t k).1=noT):=by
 cases q:(zaD t k).2 with
 |true=>have hm:=zhJ t.names t.kids k q;exact⟨h.kid hm,.inl hm⟩
 | false=>
  have:(zaD t k).1=noT:=by
   have hz:∀(ns:List fC) (ks:List Typ),(za3 ns ks k).2=false->(za3 ns ks k).1=noT:=fun ns=>by
    induction ns with
    |nil=>intro ks _;rw[za3];intros;contradiction
    | cons n ns ih=>
     intro ks
     cases ks with
     |nil=>intro _;rw[za3];intros;contradiction
     |cons x ks=>
      rw[za3]
      split
      ·intro h;cases h
      ·exact ih ks
   exact hz _ _ q
  rw[this];exact⟨NF.no,.inr rfl⟩
structure RI (C:Coe) (ns:List fC):Prop where
 len:C.names.length=C.fields.length
 names:C.names.Pairwise ltB
 fields:∀x,x∈C.fields->mayC x=true/\x≠idC/\smC 16 x
 needs:(∀x,x∈C.needs->x.2≠0)/\(C.needs.map (·.1)).Nodup
 an:∀x,x∈C.names->∀k,k∈ns->ltB x k
 ad:∀x,x∈C.needs->∀k,k∈ns->ltB x.1 k
def RI.put{C:Coe}{k:fC}{ns:List fC}(h:RI C (k::ns))(hk:(k::ns).Pairwise ltB){d:Coe}(hd:mayC d=true)(sd:smC 16 d):RI (putR C k d) ns/\(putR C k d).names.length<=C.names.length+1/\(putR C k d).needs=C.needs:=by
 have hk':=bN.1 hk
 have h0:RI C ns:=⟨h.len,h.names,h.fields,h.needs,fun x hx k hk=>h.an x hx k (by simp[hk]),fun x hx k hk=>h.ad x hx k (by simp[hk])⟩
 unfold putR
 split
 ·exact⟨h0,by omega,rfl⟩
 ·rename_i q
  refine⟨⟨?_,?_,?_,h.needs,?_,h0.ad⟩,?_,rfl⟩
  ·simpa[Coe.names,Coe.fields]using h.len
  ·simp only[Coe.names]
   exact dA.2 ⟨h.names,by simp,fun x hx y hy=>by rw[aL.1 hy];exact h.an x hx k (by simp)⟩
  ·intro x hx
   simp only[Coe.fields,aQ,aL]at hx
   rcases hx with hx|rfl
   ·exact h.fields x hx
   ·exact⟨hd,fun e=>q ((zdn _ _).2 e),sd⟩
  ·intro x hx y hy
   simp only[Coe.names,aQ,aL]at hx
   rcases hx with hx|rfl
   ·exact h0.an x hx y hy
   ·exact hk'.1 y hy
  ·simp[Coe.names]
def RI.tail{C:Coe}{k:fC}{ns:List fC}(h:RI C (k::ns)):RI C ns:=⟨h.len,h.names,h.fields,h.needs,fun x hx k hk=>h.an x hx k (by simp[hk]),fun x hx k hk=>h.ad x hx k (by simp[hk])⟩
section
variable {v:Typ->Typ->Int->Coe} {lb:Int} (l2:2<=lb) (hv:∀x y,NF x->NF y->mayC (v x y lb)=true/\smC 16 (v x y lb))
include hv in
def zAZ:∀(ns:List fC) (ks:List Typ) (C:Coe),ns.Pairwise ltB->(∀x,x∈ks->NF x)->RI C ns->RI (mkA v lb ns ks C) []/\(mkA v lb ns ks C).names.length<=C.names.length+ns.length/\(mkA v lb ns ks C).needs=C.needs
 |[],ks,C,_,_,h=>by rw[mkA];exact⟨h,by omega,rfl⟩;intros;contradiction
 |n::ns,[],C,_,_,h=>by rw[mkA];exact⟨⟨h.len,h.names,h.fields,h.needs,fun _ _ k hk=>(by cases hk),fun _ _ k hk=>(by cases hk)⟩,by omega,rfl⟩;intros;contradiction
 |n::ns,k::ks,C,hn,hk,h=>by
  rw[mkA]
  have h1:=hv k noT (hk k (by simp)) NF.no
  obtain⟨g1,g2,g3⟩:=h.put hn h1.1 h1.2
  have h2:=zAZ ns ks (putR C n (v k noT lb)) (bN.1 hn).2 (fun x hx=>hk x (by simp[hx])) g1
  exact⟨h2.1,by have:=h2.2.1;simp only[length_cons];omega,h2.2.2.trans g3⟩
include l2 in
def RI.need{C:Coe}{k:fC}{ns:List fC}(h:RI C (k::ns)):(∀x,x∈C.names->ltB x k)/\((zbA C k lb).needs.map (·.1)).Nodup/\(∀x,x∈(zbA C k lb).needs->x.2≠0):=by
 refine⟨fun x hx=>h.an x hx k (by simp),?_,fun x hx=>?_⟩
 ·rw[zgM,map_append]
  refine bn.2 ⟨h.needs.2,by simp,fun x hx y hy e=>?_⟩
  obtain⟨z,hz,rfl⟩:=ai.1 hx
  simp only[map_cons,map_nil,aL]at hy
  have:=h.ad z hz k (by simp)
  rw[e,hy]at this
  exact zdU _ this
 ·rw[zgM,aQ,aL]at hx
  rcases hx with hx|rfl
  ·exact h.needs.1 x hx
  ·simp only;omega
include l2 hv in
def zA0(m:Prt)(nm:NF m.t):∀(ns:List fC) (ks:List Typ) (C:Coe),ns.Pairwise ltB->(∀x,x∈ks->NF x)->RI C ns->RI (mkB v m lb ns ks C) []/\(mkB v m lb ns ks C).names.length<=C.names.length+ns.length/\(mkB v m lb ns ks C).needs.length<=C.needs.length+ns.length
 |[],ks,C,_,_,h=>by rw[mkB];exact⟨h,by omega,by omega⟩;intros;contradiction
 |n::ns,[],C,_,_,h=>by rw[mkB];exact⟨⟨h.len,h.names,h.fields,h.needs,fun _ _ k hk=>(by cases hk),fun _ _ k hk=>(by cases hk)⟩,by omega,by omega⟩;intros;contradiction
 | n ::ns,k::ks,C,hn,hk,h=>by
  rw[mkB]
  have hn':=bN.1 hn
  have h1:=hv (zaD m.t n).1 k (nm.field n).1 (hk k (by simp))
  generalize v (zaD m.t n).1 k lb=d at*
  obtain⟨C2,hC2⟩:∃C2,(if(zaD m.t n).2=true\/m.opn=true then putR (if(zaD m.t n).2=false then zbA C n lb else C) n d else(if(zaD m.t n).2=false then zbA C n lb else C))=C2:=⟨_,rfl⟩
  show RI (mkB v m lb ns ks _) []/\_
  have key:RI C2 ns/\C2.names.length<=C.names.length+1/\C2.needs.length<=C.needs.length+1:=by
   have hP:RI (putR C n d) ns/\(putR C n d).names.length<=C.names.length+1/\(putR C n d).needs=C.needs:=h.put hn h1.1 h1.2
   have hN:=h.need l2
   by_cases q:(zaD m.t n).2=false
   ·rw[aC q]at hC2
    have e1:∀D:Coe,RI D ns->D.needs=C.needs->RI (zbA D n lb) ns:=fun D hD eD=>by
     have hdn:(zbA D n lb).needs=(zbA C n lb).needs:=by rw[zgM,zgM,eD]
     refine⟨hD.len,hD.names,hD.fields,by rw[hdn];exact⟨hN.2.2,hN.2.1⟩,hD.an,fun x hx y hy=>?_⟩
     rw[zgM,aQ,aL]at hx
     rcases hx with hx|rfl
     ·exact hD.ad x hx y hy
     ·exact hn'.1 y hy
    by_cases o:(zaD m.t n).2=true\/m.opn=true
    ·rw[aC o]at hC2
     have e2:putR (zbA C n lb) n d=zbA (putR C n d) n lb:=by
      unfold putR zbA
      split<;>rfl
     rw[<-hC2,e2]
     exact⟨e1 _ hP.1 hP.2.2,hP.2.1,by rw[zgM,hP.2.2];simp⟩
    ·rw[aB o]at hC2
     rw[<-hC2]
     exact⟨e1 _ h.tail rfl,by simp,by simp⟩
   ·rw[aB q]at hC2
    have o:(zaD m.t n).2=true\/m.opn=true:=.inl (by simpa using q)
    rw[aC o]at hC2
    rw[<-hC2]
    exact⟨hP.1,hP.2.1,by rw[hP.2.2];omega⟩
  rw[hC2]
  have h2:=zA0 m nm ns ks C2 hn'.2 (fun x hx=>hk x (by simp[hx])) key.1
  exact⟨h2.1,by have:=h2.2.1;simp only[length_cons];omega,by have:=h2.2.2;simp only[length_cons];omega⟩
include l2 hv in
def zFV(m n:Prt)(nm:NF m.t)(nn:NF n.t)(C:Coe)(c1:C.needs=[])(c2:C.names=[])(c3:C.fields=[]):
  RI (mkR v m n lb C) []/\(mkR v m n lb C).names.length<=16/\(mkR v m n lb C).needs.length<=16:=by
 have h0:∀ns,RI C ns:=fun ns=>⟨by rw[c2,c3];rfl,by rw[c2];simp,(by rw[c3];intro x hx;cases hx),by rw[c1];exact⟨fun x hx=>(by cases hx),by simp⟩,(by rw[c2];intro x hx;cases hx),(by rw[c1];intro x hx;cases hx)⟩
 have hm:=zer nm.1
 have hn:=zer nn.1
 unfold mkR
 split
 ·split
  ·exact⟨h0 [],by rw[c2];simp,by rw[c1];simp⟩
  ·have h:=zAZ hv m.t.names m.t.kids C ((zcb _).1 nm.2).1 (fun x hx=>nm.kid hx) (h0 _)
   exact⟨h.1,by have:=h.2.1;rw[c2]at this;simp only[length_nil]at this;omega,by rw[h.2.2,c1];simp⟩
 ·have h:=zA0 l2 hv m nm n.t.names n.t.kids C ((zcb _).1 nn.2).1 (fun x hx=>nn.kid hx) (h0 _)
  exact⟨h.1,by have:=h.2.1;rw[c2]at this;simp only[length_nil]at this;omega,by have:=h.2.2;rw[c1]at this;simp only[length_nil]at this;omega⟩
end
def zpd(C:Coe)(i:Nat)(x:Int)(j:Nat)(h:j≠i):tagZ (setT C i x) j=tagZ C j:=by
 unfold tagZ setT
 simp only[Coe.tags,aH]
 rw[getElem?_set_ne (Ne.symm h)]
structure MI (C:Coe) (done:List Int):Prop where
 may:May C
 n4:(4:Int)∉done->tagZ C 4=0/\C.needs=[]/\C.names=[]/\C.fields=[]
 n5:(5:Int)∉done->tagZ C 5=0/\C.fn=[]
 sm:smC 16 C
def MI.step{v:Typ->Typ->Int->Coe}{R:List Prt}{lb:Int}(l2:2<=lb)(hv:∀x y l,2<=l->NF x->NF y->mayC (v x y l)=true/\smC 16 (v x y l)){C:Coe}{done:List Int}{m:Prt}(h:MI C done)(hm:m.tag∉done)(mt:0<=m.tag/\m.tag<6)(nm:NF m.t)(m5:m.tag=5->m.t.kids.length=2)
  (hR:∀p,p∈R->NF p.t/\(p.tag=5->p.t.kids.length=2)):MI (zfh v R lb m C) (done++[m.tag]):=by
 have hsm:=(zdI _ _).1 h.sm
 unfold zfh
 split
 ·have h4:m.tag.toNat≠4->tagZ (setT C m.tag.toNat lb) 4=tagZ C 4:=fun q=>zpd _ _ _ _ (Ne.symm q)
  have h5:m.tag.toNat≠5->tagZ (setT C m.tag.toNat lb) 5=tagZ C 5:=fun q=>zpd _ _ _ _ (Ne.symm q)
  refine⟨⟨by simpa[setT,Coe.tags]using h.may.tags,h.may.len,h.may.fn,fun q=>?_,fun q=>?_,h.may.needs,h.may.names,h.may.fields⟩,fun q=>?_,fun q=>?_,?_⟩
  ·by_cases e:m.tag=4
   ·exact(h.n4 (e▸hm)).2.2.1
   ·rw[h4 (by omega)]at q;exact h.may.t4 q
  ·by_cases e:m.tag=5
   ·exact(h.n5 (e▸hm)).2
   ·rw[h5 (by omega)]at q;exact h.may.t5 q
  ·simp only[aQ,aL,dP]at q
   rw[h4 (by omega)]
   exact h.n4 q.1
  ·simp only[aQ,aL,dP]at q
   rw[h5 (by omega)]
   exact h.n5 q.1
  ·exact(zdI _ _).2 hsm
 rename_i q
 have hq:∀t,m.tag=t->(zaM R t).1∈R/\(zaM R t).1.tag=t:=fun t e=>by
  subst e
  exact zfF (by simpa using q)
 split
 ·rename_i e5
  have hp:=hq 5 e5
  have nq:=hR _ hp.1
  have m2:=m5 e5
  have q2:=nq.2 hp.2
  have f0:=hv (kid0 (zaM R 5).1.t) (kid0 m.t) (flp lb) (by unfold flp;split<;>omega) (nq.1.kid (zkJ q2).1) (nm.kid (zkJ m2).1)
  have f1:=hv (kid1 m.t) (kid1 (zaM R 5).1.t) lb l2 (nm.kid (zit m2).1) (nq.1.kid (zit q2).1)
  have n5:=h.n5 (e5▸hm)
  generalize v (kid0 (zaM R 5).1.t) (kid0 m.t) (flp lb)=f at*
  generalize v (kid1 m.t) (kid1 (zaM R 5).1.t) lb=g at*
  refine⟨⟨h.may.tags,h.may.len,?_,h.may.t4,fun q=>absurd n5.1 q,h.may.needs,h.may.names,h.may.fields⟩,fun q=>?_,fun q=>?_,?_⟩
  ·show zbj f g=[]\/∃f' g',zbj f g=[f',g']/\_
   unfold zbj
   split
   ·exact .inl rfl
   ·rename_i e
    refine .inr ⟨f,g,rfl,f0.1,f1.1,fun x=>e ?_⟩
    rw[x.1,x.2,zjn];try rfl
  ·simp only[aQ,aL,dP]at q
   exact h.n4 q.1
  ·exact absurd (by rw[e5];simp) q
  ·refine(zdI _ _).2 ⟨hsm.1,hsm.2.1,?_,hsm.2.2.2.1,?_⟩
   ·show(zbj f g).length<=16
    unfold zbj;split<;>simp
   ·intro x hx
    have hx:x∈zbj f g:=hx
    unfold zbj at hx
    split at hx
    ·cases hx
    ·simp only[aM,cz,eQ]at hx
     rcases hx with rfl|rfl
     ·exact f0.2
     ·exact f1.2
 split
 ·rename_i e5 e4
  have hp:=hq 4 e4
  have nq:=(hR _ hp.1).1
  obtain⟨c0,c1,c2,c3⟩:=h.n4 (e4▸hm)
  have hr:=zFV l2 (fun x y nx ny=>hv x y lb l2 nx ny) m (zaM R 4).1 nm nq C c1 c2 c3
  have hk:=zpb v m (zaM R 4).1 lb C
  generalize mkR v m (zaM R 4).1 lb C=C' at*
  have hz:∀i,tagZ C' i=tagZ C i:=fun i=>by unfold tagZ;rw[hk.1]
  refine⟨⟨by rw[hk.1];exact h.may.tags,hr.1.len,by rw[hk.2];exact h.may.fn,fun q=>absurd (by rw[hz];exact c0) q,fun q=>by rw[hz]at q;rw[hk.2];exact h.may.t5 q,hr.1.needs,hr.1.names,fun x hx=>⟨(hr.1.fields x hx).1,(hr.1.fields x hx).2.1⟩⟩,fun q=>absurd (by rw[e4];simp) q,fun q=>?_,?_⟩
  ·simp only[aQ,aL,dP]at q
   rw[hz,hk.2]
   exact h.n5 q.1
  ·exact(zdI _ _).2 ⟨hr.2.2,by rw[<-hr.1.len];exact hr.2.1,by rw[hk.2];exact hsm.2.2.1,fun x hx=>(hr.1.fields x hx).2.2,by rw[hk.2];exact hsm.2.2.2.2⟩
 ·rename_i e5 e4
  refine⟨h.may,fun q=>?_,fun q=>?_,h.sm⟩
  ·simp only[aQ,aL,dP]at q
   exact h.n4 q.1
  ·simp only[aQ,aL,dP]at q
   exact h.n5 q.1
def MI.all{v:Typ->Typ->Int->Coe}{R:List Prt}{lb:Int}(l2:2<=lb)(hv:∀x y l,2<=l->NF x->NF y->mayC (v x y l)=true/\smC 16 (v x y l))(hR:∀p,p∈R->NF p.t/\(p.tag=5->p.t.kids.length=2)):∀(L:List Prt) (C:Coe) (done:List Int),MI C done->(done++L.map (·.tag)).Nodup->(∀p,p∈L->0<=p.tag/\p.tag<6/\NF p.t/\(p.tag=5->p.t.kids.length=2))->∃d,MI (zdE v R lb L C) d
 |[],C,done,h,_,_=>⟨done,h⟩
 |m::L,C,done,h,hn,hL=>by
  rw[zdE]
  have hm:=hL m (by simp)
  have hnot:m.tag∉done:=fun q=>(bn.1 hn).2.2 _ q m.tag (by simp) rfl
  exact MI.all l2 hv hR L _ (done++[m.tag]) (h.step l2 hv hnot ⟨hm.1,hm.2.1⟩ hm.2.2.1 hm.2.2.2 hR) (by simpa using hn) (fun p hp=>hL p (by simp[hp]))
def zvc:∀(n:Nat) (a b:Typ) (lb:Int),2<=lb->NF a->NF b->mayC (zc6 n a b lb)=true/\smC 16 (zc6 n a b lb)
 |0,a,b,lb,_,_,_=>⟨ziM,zfU _⟩
 | n+1,a,b,lb,l2,na,nb=>by
  rw[zc6]
  split
  ·exact⟨ziM,zfU _⟩
  ·have pa:=zkR na
   have pb:=zkR nb
   obtain⟨d,hd⟩:=MI.all l2 (fun x y l hl nx ny=>zvc n x y l hl nx ny) (fun p hp=>⟨(pb.2 p hp).2.2.1,(pb.2 p hp).2.2.2.1⟩) (zaL a) idC [] ⟨May.idC,fun _=>⟨zgb 4,rfl,rfl,rfl⟩,fun _=>⟨zgb 5,rfl⟩,zfU _⟩ (by simpa using pa.1) (fun p hp=>⟨(pa.2 p hp).1,(pa.2 p hp).2.1,(pa.2 p hp).2.2.1,(pa.2 p hp).2.2.2.1⟩)
   exact⟨(zbR _).2 hd.may,hd.sm⟩
end Go.Gr
