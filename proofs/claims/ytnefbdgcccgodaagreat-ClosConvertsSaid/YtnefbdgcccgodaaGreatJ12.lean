/- Texts of ours, joined and written short by a program of ours. -/
import Derived.Test.YtnefbdgcccgodaaGreatJ11
set_option linter.unusedVariables false
set_option linter.unusedSimpArgs false
namespace Go.Gr
open Go.Abs Go.Proofs
@[simp] theorem zB9(v:ByteArray × Typ):(encV v)[0]?=some (.str v.1):=rfl
@[simp] theorem zzS(v:ByteArray × Typ):(encV v)[1]?=some (.int .i64 v.2.kind):=by unfold encV;rw[Typ.enc_eq];try rfl
@[simp] theorem zBS(v:ByteArray × Typ)(h:0<(encV v).length):(encV v)[0]=.str v.1:=rfl
@[simp] theorem zBT(v:ByteArray × Typ)(h:1<(encV v).length):(encV v)[1]=.int .i64 v.2.kind:=by have:=zzS v;rw[List.getElem?_eq_getElem h]at this;exact Option.some.inj this
@[simp] theorem zBs(v:ByteArray × Typ):cut (encV v) 1 4=v.2.enc:=by unfold encV;rw[Typ.enc_eq];try rfl
set_option maxRecDepth 20000 in
set_option maxHeartbeats 4000000 in
theorem zy7(vars:List (ByteArray × Typ))(l:List Typ)(hl:l.length<=1000000):PCall Pg 120 [.one (.sl false 5 (vars.map encV)),.one (.sl false 4 (l.map Typ.enc))] (.one (.int .i64 (zkE vars l))):=by
 refine zub (by simp) fun o c hN hp=>?_
 obtain⟨R,hR⟩:∃R,zkE vars l=R:=⟨_,rfl⟩
 rw[hR]
 unfold zkE at hR
 unfold zlb
 by_cases hv:vars.length=l.length
 rotate_left
 ·rw[if_pos hv]at hR
  subst hR
  have hv':¬(vars.length:Int)=l.length:=by omega
  simp[hv']
 rw[if_neg (fun z=>z hv)]at hR
 have hv':(vars.length:Int)=l.length:=by omega
 simp[hv']
 refine owK.mk [.t 5] ?_
 simp
 refine W.loop zab hp (fun i:Nat=>i<=l.length/\zm9 (vars.drop i) (l.drop i) ((vars.take i).map (·.1)) (l.take i)=R) (fun i=>[(6,.c (.d (.int .i64 i))),(5,.c (.msl 1 0 0 i)),(1,.c (.d (.sl false 4 (l.map Typ.enc)))),(0,.c (.d (.sl false 5 (vars.map encV))))]) (fun i=>[strA ((vars.take i).map (·.1))]) (fun i=>l.length-i) 0 [0] ⟨by simp,by simpa using hR⟩ (by simp[encS]) fun i ⟨h1,h2⟩=>?_
 unfold lp_g08_Bind_0
 simp
 refine gd.mk (fun h=>?_) (fun h=>?_)
 ·have hi:i<l.length:=by simpa using h
  have hi2:i<vars.length:=by omega
  rw[List.drop_eq_getElem_cons hi,List.drop_eq_getElem_cons hi2,zm9]at h2
  obtain⟨x,hx⟩:∃x,l[i]=x:=⟨_,rfl⟩
  obtain⟨v,hv3⟩:∃v,vars[i]=v:=⟨_,rfl⟩
  rw[hx,hv3]at h2
  have hw:=wrap_i64 (n:=(i:Int)+1) (by omega) (by omega)
  have tk1:(vars.take (i+1)).map (·.1)=(vars.take i).map (·.1)++[v.1]:=by rw[List.take_succ_eq_append_getElem hi2,List.map_append,hv3];try rfl
  have tk2:l.take (i+1)=l.take i++[x]:=by rw[List.take_succ_eq_append_getElem hi,hx]
  have hlt:(l.take i).length=i:=by rw[List.length_take];omega
  have hvt:((vars.take i).map (·.1)).length=i:=by rw[List.length_map,List.length_take];omega
  simp[hi,hx]
  refine zac.mk (zbP x) ?_
  by_cases n:isNR x=true
  rotate_left
  ·rw[if_pos (by simpa using n)]at h2
   subst h2
   simp[n]
  rw[if_neg (by simp[n])]at h2
  by_cases k0:v.2.kind=0
  ·rw[if_neg (fun z=>z.1 k0)]at h2
   simp[n,hi2,hv3,k0]
   refine⟨by omega,by omega,?_⟩
   refine Abs.Next.mk (i+1) [1] ⟨by omega,by rw[tk1,tk2];exact h2⟩ (by omega) ?_
   rw[tk1]
   simp[hw,hvt]
   exact List.take_of_length_le (by simp;omega)
  ·have hro:=zrX ((vars.take i).map (·.1)) (l.take i) (by rw[hlt];omega) v.2
   rw[hvt]at hro
   have hsb:=zjv x (zaU v.2 ((vars.take i).map (·.1)) (l.take i)).1
   generalize zaU v.2 ((vars.take i).map (·.1)) (l.take i)=r at*
   simp[n,hi2,hv3,k0,h1]
   refine zaa.mk [0] hro (by simp) ?_
   simp[hi,hx]
   refine⟨by decide,?_⟩
   refine zac.mk hsb ?_
   by_cases e0:r.2=0
   ·by_cases s0:SubR x r.1=true
    ·rw[if_neg (by simp[e0,s0])]at h2
     simp[e0,s0,hi2,hv3]
     refine⟨by decide,by omega,by omega,?_⟩
     refine Abs.Next.mk (i+1) [2] ⟨by omega,by rw[tk1,tk2];exact h2⟩ (by omega) ?_
     rw[tk1]
     simp[hw,hvt]
     exact List.take_of_length_le (by simp;omega)
    ·rw[if_pos ⟨k0,.inr (by simpa using s0)⟩]at h2
     subst h2
     simp[e0,s0]
     try decide
   ·rw[if_pos ⟨k0,.inl e0⟩]at h2
    subst h2
    simp[e0]
    try decide
 ·have hi:i=l.length:=by simp at h;omega
  subst hi
  rw[List.drop_length,zm9]at h2
  ·subst h2
   simp
  ·intros;contradiction
@[simp] theorem Ist.enc_length(x:Ist):x.enc.length=3:=rfl
@[simp] theorem Ist.enc_0(x:Ist):x.enc[0]?=some (.int .i64 x.module):=rfl
@[simp] theorem Ist.enc_1(x:Ist):x.enc[1]?=some (.int .i64 x.decl):=rfl
@[simp] theorem Ist.enc_2(x:Ist):x.enc[2]?=some (.sl false 4 (x.types.map Typ.enc)):=rfl
@[simp] theorem Ist.enc_g0(x:Ist)(h:0<x.enc.length):x.enc[0]=.int .i64 x.module:=rfl
@[simp] theorem Ist.enc_g1(x:Ist)(h:1<x.enc.length):x.enc[1]=.int .i64 x.decl:=rfl
@[simp] theorem Ist.enc_g2(x:Ist)(h:2<x.enc.length):x.enc[2]=.sl false 4 (x.types.map Typ.enc):=rfl
@[simp] theorem Ist.cut_enc(x:Ist):cut x.enc 0 3=x.enc:=rfl
@[simp] theorem Ist.cut_map(x:Ist):cut (x.enc.map AC.d) 0 3=x.enc.map .d:=rfl
set_option maxRecDepth 20000 in
theorem zxw(a b:Ist):PCall Pg 49 [.agg a.enc,.agg b.enc] (.one (.bool (zfS a b))):=by
 refine zuc (by simp) fun o c hN hp=>?_
 have hl:a.types.length<=zah:=by
  have:=o.1
  simp only[DV.ok,Ist.enc,D.okL,D.ok,List.length_map]at this
  exact this.2.2.1.1
 unfold zah at hl
 obtain⟨R,hR⟩:∃R,zfS a b=R:=⟨_,rfl⟩
 rw[hR]
 unfold zfS at hR
 unfold zlc
 by_cases q1:a.module=b.module
 rotate_left
 ·simp[q1]at hR
  simp[q1,hR]
 by_cases q2:a.decl=b.decl
 rotate_left
 ·simp[q2]at hR
  simp[q1,q2,hR]
 by_cases q3:a.types.length=b.types.length
 rotate_left
 ·have:eqF za5 a.types b.types=false:=by
   cases h:eqF za5 a.types b.types with
   |false=>rfl
   |true=>exact absurd (znE h) q3
  have q3':¬(a.types.length:Int)=b.types.length:=by omega
  simp[this]at hR
  simp[q1,q2,q3,q3',hR]
 simp[q1,q2]at hR
 simp[q1,q2,q3]
 refine W.loop zab hp (fun j:Nat=>j<=a.types.length/\eqF za5 (a.types.drop j) (b.types.drop j)=R) (fun j=>[(5,.c (.d (.int .i64 j))),(3,.c (.d (.rp b.enc 0))),(2,.c (.d (.rp a.enc 0)))]) (fun _=>[]) (fun j=>a.types.length-j) 0 [] ⟨by simp,by simpa using hR⟩ (by simp) fun j ⟨h1,h2⟩=>?_
 unfold lp_g08_same_0
 simp
 refine gd.mk (fun h=>?_) (fun h=>?_)
 ·have hj:j<a.types.length:=by simpa using h
  have hj2:j<b.types.length:=by omega
  rw[List.drop_eq_getElem_cons hj,List.drop_eq_getElem_cons hj2,eqF]at h2
  simp[hj,hj2]
  refine zac.mk (zf0 _ _) ?_
  generalize za5 a.types[j] b.types[j]=q at*
  cases q with
  |true=>
   simp at h2
   simp
   refine⟨by decide,?_⟩
   refine Abs.Next.mk (j+1) [] ⟨by omega,h2⟩ (by omega) ?_
   simp
   exact wrap_i64 (by omega) (by omega)
  |false=>
   simp at h2
   simp[h2]
   try decide
 ·have hj:j=a.types.length:=by simp at h;omega
  subst hj
  rw[List.drop_length,q3,List.drop_length]at h2
  simp[eqF]at h2
  simp[h2]
abbrev tabA(l:List Ist):Blk:=.arr 3 ((l.map Ist.enc).map (·.map .d))
abbrev tbB(most:Int)(n b:Nat):Blk:=.box [.d (.int .i64 most),.msl 3 b 0 n]
theorem zpn{ts:List (Nat × Nat)}{a b:Blk}(h:ts.length=[a,b].length):∃t u,ts=[t,u]:=by
 match ts,h with
 |[t,u],_=>exact⟨t,u,rfl⟩
set_option maxRecDepth 20000 in
set_option maxHeartbeats 4000000 in
theorem zvx(most:Int)(l:List Ist)(hl:l.length<=100000)(x:Ist)(hx:x.types.length<=1000000):
  MCall Pg 28 [.c (.ptr 0 0),.ag (x.enc.map .d)] [tbB most l.length 1,tabA l] (.tup [.c (.d (.int .i64 (addR most l x).1.1)),.c (.d (.int .i64 (addR most l x).1.2))]) [tbB most (addR most l x).2.length 2,.dead,tabA (addR most l x).2]:=by
 refine zlN ⟨by simp,by simp,by simp,by simp,by simp,by simp,by simp;rfl⟩ fun ts hts ok hb c hN hp=>?_
 obtain⟨t,u,rfl⟩:=zpn hts
 obtain⟨R,hR⟩:∃R,addR most l x=R:=⟨_,rfl⟩
 rw[hR]
 unfold addR at hR
 unfold zgz
 simp
 refine W.loop zab hp (fun j:Nat=>j<=x.types.length/\(x.types.drop j).all isNR=x.types.all isNR) (fun j=>[(6,.c (.d (.int .i64 j))),(3,.c (.d (.rp x.enc 0))),(0,.c (.ptr 0 0))]) (fun _=>[tbB most l.length 1,tabA l,.pin t 0,.pin u 1]) (fun j=>x.types.length-j) 0 [0,1,2,3] ⟨by simp,by simp⟩ (by simp) fun j ⟨h1,h2⟩=>?_
 unfold lp_g08_Table_Add_0
 simp
 refine gd.mk (fun h=>?_) (fun h=>?_)
 ·have hj:j<x.types.length:=by simpa using h
  rw[List.drop_eq_getElem_cons hj,List.all_cons]at h2
  simp[hj]
  refine zac.mk (zbP _) ?_
  have hw:=wrap_i64 (n:=(j:Int)+1) (by omega) (by omega)
  generalize isNR x.types[j]=q at*
  cases q with
  |false=>
   simp only[Bool.false_and]at h2
   rw[if_pos h2.symm]at hR
   subst hR
   simp
   exact EndM.mk [0,3,1] [2,3] (by simp)
  |true=>
   simp only[Bool.true_and]at h2
   simp
   refine Abs.Next.mk (j+1) [0,1,2,3] ⟨by omega,h2⟩ (by omega) ?_
   simp[hw]
 ·have hj:j=x.types.length:=by simp at h;omega
  subst hj
  rw[List.drop_length,List.all_nil]at h2
  rw[if_neg (by rw[<-h2];simp)]at hR
  simp
  refine W.loop zab hp (fun i:Nat=>i<=l.length/\fi (fun y=>zfS y x) i (l.drop i)=fi (fun y=>zfS y x) 0 l) (fun i=>[(8,.c (.d (.int .i64 i))),(3,.c (.d (.rp x.enc 0))),(0,.c (.ptr 0 0))]) (fun _=>[tbB most l.length 1,tabA l,.pin t 0,.pin u 1]) (fun i=>l.length-i) 0 [0,1,2,3] ⟨by simp,by simp⟩ (by simp) fun i ⟨h3,h4⟩=>?_
  unfold zfk
  simp
  refine gd.mk (fun h=>?_) (fun h=>?_)
  ·have hi:i<l.length:=by simpa using h
   rw[List.drop_eq_getElem_cons hi,fi]at h4
   have hw:=wrap_i64 (n:=(i:Int)+1) (by omega) (by omega)
   simp[hi]
   refine zac.mk (zxw _ _) ?_
   by_cases q:zfS l[i] x=true
   ·rw[if_pos q]at h4
    rw[<-h4,if_pos (by omega)]at hR
    subst hR
    simp[q]
    refine⟨by decide,?_⟩
    exact EndM.mk [0,3,1] [2,3] (by simp)
   ·rw[if_neg q]at h4
    simp[q]
    refine⟨by decide,?_⟩
    refine Abs.Next.mk (i+1) [0,1,2,3] ⟨by omega,h4⟩ (by omega) ?_
    simp[hw]
  ·have hi:i=l.length:=by simp at h;omega
   subst hi
   rw[List.drop_length,fi]at h4
   rw[<-h4,if_neg (by decide)]at hR
   simp
   by_cases m:most<=l.length
   ·rw[if_pos m]at hR
    subst hR
    simp[m]
    refine⟨by decide,?_⟩
    exact EndM.mk [0,3,1] [2,3] (by simp)
   ·rw[if_neg m]at hR
    subst hR
    have hw:IntKind.i64.wrap (l.length:Int)=(l.length:Int):=wrap_i64 (by omega) (by omega)
    simp[m]
    refine⟨by decide,by omega,by decide,?_⟩
    exact EndM.mk [0,1,4] [2,3] (by simp[hw,zaG])
end Go.Gr
namespace Go.Gr
open Go.Abs Go.Proofs
@[simp] theorem Fun.enc_length(f:Fun):f.enc.length=13:=by simp[Fun.enc]
@[simp] theorem Site.enc_length(f:Site):f.enc.length=3:=rfl
abbrev funA(l:List Fun):Blk:=.arr 13 ((l.map Fun.enc).map (·.map .d))
abbrev sitA(l:List Site):Blk:=.arr 3 ((l.map Site.enc).map (·.map .d))
abbrev ckBx(L:Lnk)(s:CS)(a b d:Nat):Blk:=.box [.d (.sl false 1 (encS L.names)),.d (.sl false 2 (L.mods.map Mdl.enc)),.d (.sl false 1 (L.scopes.map scpE)),.d (.str L.main.name),.d (.int .i64 L.main.module),.d (.int .i64 L.main.decl),.ptr 1 0,.msl 13 a 0 s.funs.length,.d (.int .i64 s.main),.msl 3 b 0 s.sites.length,.msl 4 d 0 s.bad.length,.d (.int .i64 s.module),.d (.sl false 1 (encS s.vars)),.d (.sl false 4 (s.wth.map Typ.enc)),.d (.int .i64 s.e),.d (.int .i64 s.line),.d (.int .i64 s.col)]
abbrev ck6(L:Lnk)(s:CS):List Blk:=[ckBx L s 2 3 4,tbB 256 s.tab.length 5,funA s.funs,sitA s.sites,diaA s.bad,tabA s.tab]
abbrev ck7(L:Lnk)(s:CS):List Blk:=[ckBx L s 2 6 4,tbB 256 s.tab.length 5,funA s.funs,.dead,diaA s.bad,tabA s.tab,sitA s.sites]
abbrev ck8(L:Lnk)(s:CS):List Blk:=[ckBx L s 2 6 4,tbB 256 s.tab.length 7,funA s.funs,.dead,diaA s.bad,.dead,sitA s.sites,tabA s.tab]
theorem zaV{ts:List (Nat × Nat)}{a b c d e f:Blk}(h:ts.length=[a,b,c,d,e,f].length):∃t u v w x y,ts=[t,u,v,w,x,y]:=by
 match ts,h with
 |[t,u,v,w,x,y],_=>exact⟨t,u,v,w,x,y,rfl⟩
section
variable (L:Lnk)
set_option maxRecDepth 20000 in
theorem zp0(ln cl e:Int)(s:CS):MCall Pg 76 [.c (.ptr 0 0),.c (.d (.int .i64 ln)),.c (.d (.int .i64 cl)),.c (.d (.int .i64 e))] (ck6 L s) (.tup []) (ck6 L (zaL ln cl e s)):=by
 refine zuh ⟨by simp,by simp,by simp,by simp,by simp,by simp,by simp[live]⟩ fun ts hts ok hb c hN hp=>?_
 obtain⟨t,u,v,w,x,y,rfl⟩:=zaV hts
 unfold mc_gc_fail zaL
 by_cases h0:s.e=0
 ·rw[if_pos h0]
  simp[h0]
  exact EndM.mk [0,1,2,3,4,5] [6,7,8,9,10,11] (by simp)
 ·rw[if_neg h0]
  simp[h0]
  exact EndM.mk [0,1,2,3,4,5] [6,7,8,9,10,11] (by simp)
theorem zdM{α:Type}{l:List α}{i:Nat}{d:α}(e:l[i]?=some d)(h:i<l.length):l[i]=d:=by rw[List.getElem?_eq_getElem h]at e;exact Option.some.inj e
@[simp] theorem Nod.enc_0(n:Nod):n.enc[0]?=some (.int .i64 n.kind):=by rw[n.enc_eq];try rfl
@[simp] theorem Nod.enc_g0(n:Nod)(h:0<n.enc.length):n.enc[0]=.int .i64 n.kind:=zdM n.enc_0 h
@[simp] theorem Nod.enc_1(n:Nod):n.enc[1]?=some (.str n.text):=by rw[n.enc_eq];try rfl
@[simp] theorem Nod.enc_g1(n:Nod)(h:1<n.enc.length):n.enc[1]=.str n.text:=zdM n.enc_1 h
@[simp] theorem Nod.enc_2(n:Nod):n.enc[2]?=some (.int .i64 n.n):=by rw[n.enc_eq];try rfl
@[simp] theorem Nod.enc_g2(n:Nod)(h:2<n.enc.length):n.enc[2]=.int .i64 n.n:=zdM n.enc_2 h
@[simp] theorem Nod.enc_3(n:Nod):n.enc[3]?=some (.int .i64 n.line):=by rw[n.enc_eq];try rfl
@[simp] theorem Nod.enc_g3(n:Nod)(h:3<n.enc.length):n.enc[3]=.int .i64 n.line:=zdM n.enc_3 h
@[simp] theorem Nod.enc_4(n:Nod):n.enc[4]?=some (.int .i64 n.col):=by rw[n.enc_eq];try rfl
@[simp] theorem Nod.enc_g4(n:Nod)(h:4<n.enc.length):n.enc[4]=.int .i64 n.col:=zdM n.enc_4 h
@[simp] theorem Nod.enc_5(n:Nod):n.enc[5]?=some (.sl false 4 (n.types.map Typ.enc)):=by rw[n.enc_eq];try rfl
@[simp] theorem Nod.enc_g5(n:Nod)(h:5<n.enc.length):n.enc[5]=.sl false 4 (n.types.map Typ.enc):=zdM n.enc_5 h
@[simp] theorem Nod.enc_6(n:Nod):n.enc[6]?=some (.sl false 1 (encS n.names)):=by rw[n.enc_eq];try rfl
@[simp] theorem Nod.enc_g6(n:Nod)(h:6<n.enc.length):n.enc[6]=.sl false 1 (encS n.names):=zdM n.enc_6 h
@[simp] theorem Nod.enc_7(n:Nod):n.enc[7]?=some (.sl false 8 (n.kids.map Nod.enc)):=by rw[n.enc_eq];try rfl
@[simp] theorem Nod.enc_g7(n:Nod)(h:7<n.enc.length):n.enc[7]=.sl false 8 (n.kids.map Nod.enc):=zdM n.enc_7 h
set_option maxRecDepth 20000 in
theorem zb5(n:Nod)(e:Int)(s:CS):MCall Pg 55 [.c (.ptr 0 0),.ag (n.enc.map .d),.c (.d (.int .i64 e))] (ck6 L s) (.tup []) (ck6 L (zaL n.line n.col e s)):=by
 refine zxY ⟨by simp,by simp,by simp,by simp,by simp,by simp,by simp[live]⟩ fun ts hts ok hb c hN hp=>?_
 obtain⟨t,u,v,w,x,y,rfl⟩:=zaV hts
 have hf:=zp0 L n.line n.col e s
 unfold mc_gc_at
 simp
 refine zaa.mk [0,1,2,3,4,5] hf (by simp) ?_
 simp
 exact EndM.mk [0,1,2,3,4,5] [6,7,8,9,10,11] (by simp)
set_option maxRecDepth 20000 in
theorem zct(t0:Typ)(ln cl:Int)(s:CS)(hw:s.wth.length<=1000000):MCall Pg 51 [.c (.ptr 0 0),.ag (t0.enc.map .d),.c (.d (.int .i64 ln)),.c (.d (.int .i64 cl))] (ck6 L s) (.ag ((zas t0 ln cl s).1.enc.map .d)) (ck6 L (zas t0 ln cl s).2):=by
 refine zpg ⟨by simp,by simp,by simp,by simp,by simp,by simp,by simp[live]⟩ fun ts hts ok hb c hN hp=>?_
 obtain⟨t,u,v,w,x,y,rfl⟩:=zaV hts
 have hr:=zg9 s.vars s.wth hw t0
 have hf:=zp0 L ln cl 9 s
 unfold zas
 simp only
 generalize zaU t0 s.vars s.wth=r at*
 unfold mc_gc_resolve
 simp
 refine zaa.mk [] hr (by simp) ?_
 by_cases h0:r.2=0
 ·rw[if_neg (by simp[h0])]
  simp[h0]
  refine⟨by decide,?_⟩
  exact EndM.mk [0,1,2,3,4,5] [6,7,8,9,10,11] (by simp)
 ·rw[if_pos h0]
  simp[h0]
  refine⟨by decide,?_⟩
  refine zaa.mk [0,1,2,3,4,5] hf (by simp) ?_
  simp
  exact EndM.mk [0,1,2,3,4,5] [6,7,8,9,10,11] (by simp)
set_option maxRecDepth 20000 in
theorem zd5(t0:Typ)(n:Nod)(s:CS):MCall Pg 52 [.c (.ptr 0 0),.ag (t0.enc.map .d),.ag (n.enc.map .d)] (ck6 L s) (.ag ((zbf t0 n.line n.col s).1.enc.map .d)) (ck6 L (zbf t0 n.line n.col s).2):=by
 refine zui ⟨by simp,by simp,by simp,by simp,by simp,by simp,by simp[live]⟩ fun ts hts ok hb c hN hp=>?_
 obtain⟨t,u,v,w,x,y,rfl⟩:=zaV hts
 have hr:=zeN t0
 have hf:=zb5 L n 9 s
 unfold zbf
 generalize zaS t0=r at*
 unfold mc_gc_made
 simp
 refine zac.mk hr ?_
 by_cases h0:r.2=0
 ·rw[if_neg (by simp[h0])]
  simp[h0]
  exact EndM.mk [0,1,2,3,4,5] [6,7,8,9,10,11] (by simp)
 ·rw[if_pos h0]
  simp[h0]
  refine zaa.mk [0,1,2,3,4,5] hf (by simp) ?_
  simp
  exact EndM.mk [0,1,2,3,4,5] [6,7,8,9,10,11] (by simp)
@[simp] theorem Cor.er_map(c:Cor):c.enc.map D.er=c.enc:=by rw[Cor.enc_eq];try rfl
theorem zhs:∀l:List Int,D.erdE (encI l)=encI l
 |[]=>rfl
 |i::l=>by have:=zhs l;unfold encI at*;simp only[List.map_cons,D.erdE,D.erdL,D.erd,this]
theorem zht:∀l:List ByteArray,D.erdE (encS l)=encS l
 |[]=>rfl
 |i::l=>by have:=zht l;unfold encS at*;simp only[List.map_cons,D.erdE,D.erdL,D.erd,this]
theorem zsn:∀l:List (ByteArray × Int),D.erdE (encN l)=encN l
 |[]=>rfl
 |i::l=>by have:=zsn l;unfold encN at*;simp only[List.map_cons,D.erdE,D.erdL,D.erd,this]
mutual
theorem Typ.erdLL:∀c:Typ,D.erdL c.enc=c.enc
 |.mk k n s l=>by rw[Typ.enc];simp only[D.erdL,D.erd,zht,Typ.erdEE l]
theorem Typ.erdEE:∀l:List Typ,D.erdE (Typ.encs l)=Typ.encs l
 |[]=>rfl
 |c::l=>by rw[Typ.encs,D.erdE,Typ.erdLL c,Typ.erdEE l]
end
mutual
theorem Coe.erdLL:∀c:Coe,D.erdL c.enc=c.enc
 |.mk t n s f g=>by rw[Coe.enc];simp only[D.erdL,D.erd,zhs,zsn,zht,Coe.erdEE f,Coe.erdEE g]
theorem Coe.erdEE:∀l:List Coe,D.erdE (Coe.encs l)=Coe.encs l
 |[]=>rfl
 |c::l=>by rw[Coe.encs,D.erdE,Coe.erdLL c,Coe.erdEE l]
end
theorem Typ.erdE_map(l:List Typ):D.erdE (l.map Typ.enc)=l.map Typ.enc:=by rw[<-Typ.encs_map];exact Typ.erdEE l
theorem Coe.erdE_map(l:List Coe):D.erdE (l.map Coe.enc)=l.map Coe.enc:=by rw[<-Coe.encs_map];exact Coe.erdEE l
mutual
theorem Cor.erdLL:∀c:Cor,D.erdL c.enc=c.enc
 |.mk k n t is ns ts cs ks=>by rw[Cor.enc];simp only[D.erdL,D.erd,zhs,zht,Typ.erdE_map,Coe.erdE_map,Cor.erdEE ks]
theorem Cor.erdEE:∀l:List Cor,D.erdE (Cor.encs l)=Cor.encs l
 |[]=>rfl
 |c::l=>by rw[Cor.encs,D.erdE,Cor.erdLL c,Cor.erdEE l]
end
theorem Cor.erdE_map(l:List Cor):D.erdE (l.map Cor.enc)=l.map Cor.enc:=by rw[<-Cor.encs_map];exact Cor.erdEE l
attribute [simp] Cor.erdLL Cor.erdE_map
theorem zaj(k n:Int)(t:ByteArray)(is:List Int)(ns:List ByteArray)(ts:List Typ)(cs:List Coe)(ks:List Cor):(Cor.mk k n t is ns ts cs ks).enc=[.int .i64 k,.int .i64 n,.str t,.sl false 1 (encI is),.sl false 1 (encS ns),.sl false 4 (ts.map Typ.enc),.sl false 5 (cs.map Coe.enc),.sl false 8 (ks.map Cor.enc)]:=by
 rw[Cor.enc_eq];try rfl
set_option maxRecDepth 20000 in
set_option maxHeartbeats 2000000 in
theorem zeK(z:Cor)(a b:Typ)(n:Nod)(s:CS)(hs:s.sites.length<=1000000000):MCall Pg 90 [.c (.ptr 0 0),.ag (z.enc.map .d),.ag (a.enc.map .d),.ag (b.enc.map .d),.ag (n.enc.map .d)] (ck6 L s) (.ag ((zaT z a b n.line n.col s).1.enc.map .d)) (ck7 L (zaT z a b n.line n.col s).2):=by
 refine zuj ⟨by simp,by simp,by simp,by simp,by simp,by simp,by simp[live]⟩ fun ts hts ok hb c hN hp=>?_
 obtain⟨t,u,v,w,x,y,rfl⟩:=zaV hts
 unfold zaT
 unfold mc_gc_cast
 by_cases h0:s.e=0
 ·rw[if_neg (by simp[h0])]
  have hw:IntKind.i64.wrap (s.sites.length:Int)=(s.sites.length:Int):=wrap_i64 (by omega) (by omega)
  simp[h0]
  refine⟨by omega,by decide,by decide,?_⟩
  exact EndM.mkE [0,1,2,3,4,5,13] [6,7,8,9,10,11] (by simp[hw,zaG,zaj,Site.enc,h0,encI,encS,AV.erd,AC.erd])
 ·rw[if_pos h0]
  simp[h0]
  exact EndM.mk [0,1,2,9,4,5,3] [6,7,8,9,10,11] (by simp)
set_option maxRecDepth 20000 in
set_option maxHeartbeats 2000000 in
theorem zbu(z:Cor)(a b:Typ)(n:Nod)(s:CS)(hs:s.sites.length<=1000000000):MCall Pg 57 [.c (.ptr 0 0),.ag (z.enc.map .d),.ag (a.enc.map .d),.ag (b.enc.map .d),.ag (n.enc.map .d)] (ck6 L s) (.ag ((zaA z a b n.line n.col s).1.enc.map .d)) (ck7 L (zaA z a b n.line n.col s).2):=by
 refine zq5 ⟨by simp,by simp,by simp,by simp,by simp,by simp,by simp[live]⟩ fun ts hts ok hb c hN hp=>?_
 obtain⟨t,u,v,w,x,y,rfl⟩:=zaV hts
 have hc:=zeK L z a b n s hs
 have hf:=zb5 L n 15 s
 unfold zaA
 unfold mc_gc_coerce
 by_cases h0:s.e=0
 rotate_left
 ·rw[if_pos h0]
  simp[h0]
  exact EndM.mk [0,1,2,9,4,5,3] [6,7,8,9,10,11] (by simp)
 rw[if_neg (by simp[h0])]
 simp[h0]
 refine zac.mk (zjv a b) ?_
 by_cases h1:SubR a b=true
 ·rw[if_pos h1]
  simp[h1]
  exact EndM.mk [0,1,2,9,4,5,3] [6,7,8,9,10,11] (by simp[h0])
 rw[if_neg h1]
 simp[h1]
 refine zac.mk (zsu a b) ?_
 by_cases h2:zfQ a b=true
 ·rw[if_pos h2]
  generalize zaT z a b n.line n.col s=r at*
  simp[h2]
  refine zaa.mk [0,1,2,3,4,5] hc (by simp[h0]) ?_
  simp
  exact EndM.mk [0,1,2,3,4,5,13] [6,7,8,9,10,11] (by simp)
 ·rw[if_neg h2]
  generalize zaL n.line n.col 15 s=r at*
  simp[h2]
  refine zaa.mk [0,1,2,3,4,5] hf (by simp[h0]) ?_
  simp
  exact EndM.mk [0,1,2,9,4,5,3] [6,7,8,9,10,11] (by simp)
end
end Go.Gr
namespace Go.Gr
open Go.Abs Go.Proofs
theorem zaB(k:Int):PCall Pg 54 [.one (.int .i64 k)] (.agg (bT k).enc):=by
 refine zud (by simp) fun o c hN hp=>?_
 unfold mc_g09_base
 simp[zap]
theorem zs1(d:Dec)(hd:d.vars.length<=1000000):PCall Pg 50 [.agg d.enc] (.one (.sl false 1 (encS (d.vars.map (·.1))))):=by
 refine zue (by simp) fun o c hN hp=>?_
 unfold zld
 simp
 refine owK.mk [.t 3] ?_
 simp
 refine W.loop zab hp (fun j:Nat=>j<=d.vars.length) (fun j=>[(4,.c (.d (.int .i64 j))),(3,.c (.msl 1 0 0 j)),(1,.c (.d (.rp d.enc 0)))]) (fun j=>[strA ((d.vars.take j).map (·.1))]) (fun j=>d.vars.length-j) 0 [0] (by simp) (by simp[encS]) fun j h1=>?_
 unfold lp_g09_Vars_0
 simp
 refine gd.mk (fun h=>?_) (fun h=>?_)
 ·have hj:j<d.vars.length:=by simpa using h
  obtain⟨v,hv⟩:∃v,d.vars[j]=v:=⟨_,rfl⟩
  have hw:=wrap_i64 (n:=(j:Int)+1) (by omega) (by omega)
  have tk1:(d.vars.take (j+1)).map (·.1)=(d.vars.take j).map (·.1)++[v.1]:=by rw[List.take_succ_eq_append_getElem hj,List.map_append,hv];try rfl
  simp[hj,hv]
  refine⟨by omega,by omega,?_⟩
  refine Abs.Next.mk (j+1) [1] (by omega) (by omega) ?_
  rw[tk1]
  simp[hw]
  exact List.take_of_length_le (by simp;omega)
 ·have hj:j=d.vars.length:=by simp at h;omega
  subst hj
  have z:List.take d.vars.length (encS (List.take d.vars.length (List.map (fun x=>x.1) d.vars)))=encS (List.map (fun x=>x.1) d.vars):=by
   rw[List.take_of_length_le (by simp),List.take_of_length_le (by simp)]
  simp[z]
theorem znR(env:Env)(hl:env.length<=1000000)(s:ByteArray)(t:Typ):PCall Pg 121 [.one (.sl false 5 (env.map encV)),.one (.str s),.agg t.enc] (.one (.sl false 5 ((env++[(s,t)]).map encV))):=by
 refine zug (by simp) fun o c hN hp=>?_
 unfold mc_g09_with
 have z:List.take (List.length env+1) (List.map encV env++[.str s::t.enc])=List.map encV env++[.str s::t.enc]:=List.take_of_length_le (by simp)
 simp[zaG]
 refine⟨by omega,by omega,by decide,?_⟩
 first
  |exact z
  |(rw[z];rfl)
  |trace_state
theorem zlQ(env:Env)(x:ByteArray):zbD env x= -1\/(0<=zbD env x/\zbD env x<env.length):=by
 have:=zm5 (fun b:ByteArray × Typ=>decide (b.1=x)) 0 env.reverse
 unfold zbD
 rw[List.length_reverse]at this
 simp only
 split<;>omega
theorem find_ok(env:Env)(hl:env.length<=1000000)(x:ByteArray):PCall Pg 118 [.one (.sl false 5 (env.map encV)),.one (.str x)] (.one (.int .i64 (zbD env x))):=by
 refine zuf (by simp) fun o c hN hp=>?_
 obtain⟨R,hR⟩:∃R,zbD env x=R:=⟨_,rfl⟩
 rw[hR]
 unfold zbD at hR
 unfold zle
 have hw0:IntKind.i64.wrap ((env.length:Int)-1)=(env.length:Int)-1:=wrap_i64 (by omega) (by omega)
 simp[hw0]
 refine W.loop zab hp (fun j:Nat=>j<=env.length/\fi (fun b:ByteArray × Typ=>decide (b.1=x)) j (env.reverse.drop j)=fi (fun b:ByteArray × Typ=>decide (b.1=x)) 0 env.reverse) (fun j=>[(5,.c (.d (.int .i64 ((env.length:Int)-1-j)))),(1,.c (.d (.str x))),(0,.c (.d (.sl false 5 (env.map encV))))]) (fun _=>[]) (fun j=>env.length-j) 0 [] ⟨by simp,by simp⟩ (by simp) fun j ⟨h1,h2⟩=>?_
 unfold lp_g09_find_0
 have hw:=wrap_i64 (n:=(env.length:Int)-1-j-1) (by omega) (by omega)
 simp
 refine gd.mk (fun h=>?_) (fun h=>?_)
 ·have hj:j<env.length:=by simp at h;omega
  have hj2:j<env.reverse.length:=by simpa using hj
  rw[List.drop_eq_getElem_cons hj2,fi,List.getElem_reverse]at h2
  obtain⟨k,hk⟩:∃k,env.length-1-j=k:=⟨_,rfl⟩
  have hkl:k<env.length:=by omega
  have hki:(env.length:Int)-1-j=(k:Int):=by omega
  simp only[hk]at h2
  rw[hki]at hw
  obtain⟨v,hv⟩:∃v,env[k]=v:=⟨_,rfl⟩
  have hg:env[env.length-1-j]?=some v:=by rw[hk,List.getElem?_eq_getElem hkl,hv]
  have hg2:env[k]?=some v:=by rw[List.getElem?_eq_getElem hkl,hv]
  have hjl:(j:Int)<=(env.length:Int)-1:=by omega
  rw[hv]at h2
  simp[hki,hg,hg2,hjl,hk]
  by_cases q:v.1=x
  ·rw[if_pos (by simpa using q)]at h2
   rw[<-h2]at hR
   have hR:(if(j:Int)<0 then -1 else(env.length:Int)-1-j)=R:=hR
   rw[if_neg (by omega)]at hR
   simp[q]
   omega
  ·rw[if_neg (by simpa using q)]at h2
   simp[q]
   refine Abs.Next.mk (j+1) [] ⟨by omega,h2⟩ (by omega) ?_
   simp[hw]
   omega
 ·have hj:j=env.length:=by simp at h;omega
  subst hj
  rw[List.drop_of_length_le (by simp),fi]at h2
  rw[<-h2]at hR
  simp at hR
  simp[hR]
@[simp] theorem Dec.enc_g3(d:Dec)(h:3<d.enc.length):d.enc[3]=.str d.param:=rfl
@[simp] theorem Dec.enc_g4(d:Dec)(h:4<d.enc.length):d.enc[4]=.sl false 4 (d.types.map Typ.enc):=rfl
structure DecOk (d:Dec):Prop where
 types:d.types.length=2
 vars:d.vars.length<=1000000
structure EntOk (L:Lnk) (e:Ent):Prop where
 m0:0<=e.module
 m1:e.module<L.mods.length
 d0:0<=e.decl
 d1:e.decl<(L.mods.getD e.module.toNat noM).decs.length
structure GoodL (L:Lnk):Prop where
 few:L.mods.length<=16
 names:L.names.length=L.mods.length
 scopes:L.scopes.length=L.mods.length
 decs:∀m,m∈L.mods->∀d,d∈m.decs->DecOk d
 ents:∀sc,sc∈L.scopes->∀e,e∈sc->EntOk L e
theorem zfm{L:Lnk}(hL:GoodL L){m k:Int}(h:EntOk L ⟨bs [],m,k⟩):∃(mn kn:Nat) (M:Mdl),m=mn/\k=kn/\L.mods[mn]?=some M/\M.decs[kn]?=some (decAt L m k)/\DecOk (decAt L m k):=by
 obtain⟨a1,a2,a3,a4⟩:=h
 simp only at a1 a2 a3 a4
 obtain⟨g1,g2⟩:=getD_in L.mods noM (z:=m) (n:=L.mods.length) rfl a1 a2
 obtain⟨g3,g4⟩:=getD_in (L.mods.getD m.toNat noM).decs zg2 (z:=k) rfl a3 a4
 exact⟨m.toNat,k.toNat,_,by omega,by omega,g1,g3,hL.decs _ g2 _ g4⟩
theorem zlR{l:List Typ}(h:l.length=2):∃a b,l=[a,b]:=by
 match l,h with
 |[a,b],_=>exact⟨a,b,rfl⟩
section
variable (L:Lnk)
set_option maxRecDepth 20000 in
set_option maxHeartbeats 2000000 in
theorem zzn(hL:GoodL L)(e:Ent)(he:EntOk L ⟨bs [],e.module,e.decl⟩)(l:List Typ)(hl:l.length<=1000000)(s:CS):
  MCall Pg 148 [.c (.ptr 0 0),.ag (e.enc.map .d),.c (.d (.sl false 4 (l.map Typ.enc)))] (ck6 L s) (.tup [.ag ((sigR L e l).1.enc.map .d),.c (.d (.bool (sigR L e l).2))]) (ck6 L s):=by
 refine zm3 ⟨by simp,by simp,by simp,by simp,by simp,by simp,by simp[live]⟩ fun ts hts ok hb c hN hp=>?_
 obtain⟨t,u,v,w,x,y,rfl⟩:=zaV hts
 obtain⟨mn,kn,M,e1,e2,g1,g2,hd⟩:=zfm hL he
 unfold sigR
 simp only
 generalize decAt L e.module e.decl=d at*
 obtain⟨ta,tb,hty⟩:=zlR hd.types
 have e3:d.types.getD 0 noT=ta:=by rw[hty];try rfl
 have e4:d.types.getD 1 noT=tb:=by rw[hty];try rfl
 rw[e3,e4]
 have hv:=zs1 d hd.vars
 have r1:=zg9 (d.vars.map (·.1)) l hl ta
 have r2:=zg9 (d.vars.map (·.1)) l hl tb
 generalize zaU ta (d.vars.map (·.1)) l=a at*
 generalize zaU tb (d.vars.map (·.1)) l=b at*
 have hn:PCall Pg 73 [.agg [.int .i64 6,.str (bs []),.sl true 1 [],.sl true 4 [a.1.enc,b.1.enc]]] (.tup [.agg (zaS (fnT a.1 b.1)).1.enc,.one (.int .i64 (zaS (fnT a.1 b.1)).2)]):=PCall.erd (zeN (fnT a.1 b.1)) (by simp[fnT,zan,DV.erds,DV.erd,D.erdL,D.erd,D.erdE,encS])
 generalize zaS (fnT a.1 b.1)=r at*
 unfold mc_gc_signature
 simp[e1,e2,g1,g2]
 refine⟨by decide,?_⟩
 refine zac.mk hv ?_
 simp[hty]
 refine zaa.mk [] r1 (by simp) ?_
 simp[hty]
 refine zaa.mk [] r2 (by simp) ?_
 simp
 refine zac.mk hn ?_
 by_cases q1:a.2=0
 ·by_cases q2:b.2=0
  ·by_cases q3:r.2=0
   ·simp[q1,q2,q3]
    exact EndM.mkE [0,1,2,3,4,5] [6,7,8,9,10,11] (by simp[q1,q2,q3,AV.erds,AV.erd])
   ·simp[q1,q2,q3]
    exact EndM.mkE [0,1,2,3,4,5] [6,7,8,9,10,11] (by simp[q1,q2,q3,AV.erds,AV.erd])
  ·simp[q1,q2]
   exact EndM.mkE [0,1,2,3,4,5] [6,7,8,9,10,11] (by simp[q1,q2,AV.erds,AV.erd])
 ·simp[q1]
  exact EndM.mkE [0,1,2,3,4,5] [6,7,8,9,10,11] (by simp[q1,AV.erds,AV.erd])
end
end Go.Gr
namespace Go.Gr
open Go.Abs Go.Proofs
structure SOk (L:Lnk) (s:CS) (b:Nat):Prop where
 wth:s.wth.length<=1000000
 sites:s.sites.length+b<=1000000000
 tab:s.tab.length<=256
 m0:0<=s.module
 m1:s.module<L.mods.length
 few:s.funs.length<=1000/\s.bad.length<=1000
 ist:∀x,x∈s.tab->EntOk L ⟨bs [],x.module,x.decl⟩/\x.types.length<=1000000
structure EOk (env:Env) (b:Nat):Prop where
 len:env.length+b<=1000000
 wf:∀v,v∈env->wfT v.2
theorem zbo{L:Lnk}{s:CS}{b:Nat}(h:SOk L s b)(ln cl e:Int):SOk L (zaL ln cl e s) b:=by
 unfold zaL
 split
 ·exact⟨h.wth,h.sites,h.tab,h.m0,h.m1,h.few,h.ist⟩
 ·exact h
theorem SOk.less{L:Lnk}{s:CS}{b c:Nat}(h:SOk L s b)(k:c<=b):SOk L s c:=⟨h.wth,by have:=h.sites;omega,h.tab,h.m0,h.m1,h.few,h.ist⟩
theorem EOk.less{env:Env}{b c:Nat}(h:EOk env b)(k:c<=b):EOk env c:=⟨by have:=h.len;omega,h.wf⟩
theorem EOk.more{env:Env}{b:Nat}(h:EOk env (b+1))(x:ByteArray){t:Typ}(ht:wfT t):EOk (env++[(x,t)]) b:=⟨by have:=h.len;simp;omega,fun v hv=>by
 rcases List.mem_append.1 hv with hv|hv
 ·exact h.wf v hv
 ·simp at hv;subst hv;exact ht⟩
theorem zrB(t:Typ)(vs:List ByteArray)(w:List Typ):wfT (zaU t vs w).1:=by
 unfold zaU
 split
 ·exact zbh
 split
 ·exact zbh
 split
 ·exact zhv _
 ·exact zbh
theorem za2{L:Lnk}{s:CS}{b:Nat}(h:SOk L s b)(t:Typ)(ln cl:Int):SOk L (zas t ln cl s).2 b/\wfT (zas t ln cl s).1:=by
 refine⟨?_,zrB _ _ _⟩
 unfold zas
 simp only
 split
 ·exact zbo h _ _ _
 ·exact h
theorem zgh{L:Lnk}{s:CS}{b:Nat}(h:SOk L s b)(t:Typ)(ln cl:Int):SOk L (zbf t ln cl s).2 b/\wfT (zbf t ln cl s).1:=by
 refine⟨?_,zhv _⟩
 unfold zbf
 simp only
 split
 ·exact zbo h _ _ _
 ·exact h
theorem zeL{L:Lnk}{s:CS}{b:Nat}(h:SOk L s (b+1))(z:Cor)(t u:Typ)(ln cl:Int):SOk L (zaT z t u ln cl s).2 b:=by
 unfold zaT
 split
 ·exact h.less (by omega)
 ·exact⟨h.wth,by have:=h.sites;simp;omega,h.tab,h.m0,h.m1,h.few,h.ist⟩
theorem coerceC_ok{L:Lnk}{s:CS}{b:Nat}(h:SOk L s (b+1))(z:Cor)(t u:Typ)(ln cl:Int):SOk L (zaA z t u ln cl s).2 b:=by
 unfold zaA
 split
 ·exact h.less (by omega)
 split
 ·exact h.less (by omega)
 split
 ·exact zeL h _ _ _ _ _
 ·exact zbo (h.less (by omega)) _ _ _
theorem zij{l:List Ist}(h:l.length<=256)(x:Ist):(addR 256 l x).2.length<=256:=by
 unfold addR
 split
 ·exact h
 split
 ·exact h
 split
 ·exact h
 ·simp;omega
theorem zlw{m:Int}{l:List Ist}{x y:Ist}(h:y∈(addR m l x).2):y∈l\/y=x:=by
 unfold addR at h
 split at h
 ·exact .inl h
 split at h
 ·exact .inl h
 split at h
 ·exact .inl h
 ·rcases List.mem_append.1 h with h|h
  ·exact .inl h
  ·exact .inr (by simpa using h)
theorem zmk{L:Lnk}{s:CS}{b:Nat}(h:SOk L s b)(ln cl:Int)(e:Ent)(l:List Typ)(he:EntOk L ⟨bs [],e.module,e.decl⟩)(hl:l.length<=1000000):SOk L (zbg L ln cl e l s).2 b/\wfT (zbg L ln cl e l s).1.2:=by
 unfold zbg
 by_cases q:(sigR L e l).2=false
 ·rw[if_pos q];exact⟨zbo h _ _ _,zbh⟩
 ·rw[if_neg q]
  simp only
  have h2:SOk L {s with tab:=(addR 256 s.tab ⟨e.module,e.decl,l⟩).2} b:=⟨h.wth,h.sites,zij h.tab _,h.m0,h.m1,h.few,fun x hx=>by
   rcases zlw hx with hx|hx
   ·exact h.ist x hx
   ·subst hx;exact⟨he,hl⟩⟩
  refine⟨?_,zhv _⟩
  split
  ·exact zbo h2 _ _ _
  ·exact h2
section
variable (L:Lnk)
set_option maxRecDepth 20000 in
set_option maxHeartbeats 4000000 in
theorem zml(hL:GoodL L)(n:Nod)(e:Ent)(he:EntOk L ⟨bs [],e.module,e.decl⟩)(l:List Typ)(hl:l.length<=1000000)(s:CS)(ht:s.tab.length<=256):
  MCall Pg 119 [.c (.ptr 0 0),.ag (n.enc.map .d),.ag (e.enc.map .d),.c (.d (.sl false 4 (l.map Typ.enc)))] (ck6 L s) (.tup [.ag ((zbg L n.line n.col e l s).1.1.enc.map .d),.ag ((zbg L n.line n.col e l s).1.2.enc.map .d)]) (ck8 L (zbg L n.line n.col e l s).2):=by
 refine zq6 ⟨by simp,by simp,by simp,by simp,by simp,by simp,by simp[live]⟩ fun ts hts ok hb c hN hp=>?_
 obtain⟨t,u,v,w,x,y,rfl⟩:=zaV hts
 have hs:=zzn L hL e he l hl s
 have hf:=zb5 L n 9 s
 have ha:=zvx 256 s.tab (by omega) ⟨e.module,e.decl,l⟩ hl
 have hb0:=zaB 0
 unfold zbg
 generalize sigR L e l=g at*
 unfold mc_gc_global
 simp
 refine zaa.mk [0,1,2,3,4,5] hs (by simp) ?_
 by_cases g0:g.2=false
 ·rw[if_pos g0]
  simp[g0]
  refine zaa.mk [0,1,2,3,4,5] hf (by simp) ?_
  simp
  refine zac.mk hb0 ?_
  simp
  exact EndM.mkE [0,1,2,9,4,11,3,5] [6,7,8,9,10,11] (by simp[noC,cN,zaj,zap,zaf,encI,encS,AV.erds,AV.erd])
 ·rw[if_neg g0]
  simp only
  generalize hr:addR 256 s.tab ⟨e.module,e.decl,l⟩=r at*
  have hf2:=zb5 L n r.1.2 {s with tab:=r.2}
  rw[Bool.not_eq_false]at g0
  simp[g0]
  refine zaa.mk [1,5] ha (by simp[Ist.enc]) ?_
  by_cases r0:r.1.2=0
  ·rw[if_neg (by simp[r0])]
   simp[r0]
   refine⟨by decide,by decide,?_⟩
   exact EndM.mkE [0,1,2,9,4,11,3,15] [6,7,8,9,10,11] (by simp[cN,zaj,encI,encS,AV.erds,AV.erd])
  ·rw[if_pos r0]
   simp[r0]
   refine⟨by decide,?_⟩
   refine zaa.mk [0,1,2,3,4,15] hf2 (by simp) ?_
   simp
   refine⟨by decide,?_⟩
   exact EndM.mkE [0,1,2,9,4,11,3,15] [6,7,8,9,10,11] (by simp[cN,zaj,encI,encS,AV.erds,AV.erd])
end
end Go.Gr
namespace Go.Gr
open Go.Abs Go.Proofs
mutual
def nsz:Nod->Nat
 |.mk _ _ _ _ _ _ _ l=>nszs l+1
def nszs:List Nod->Nat
 |[]=>0
 |n::l=>nsz n+nszs l
end
theorem za6(n:Nod):nsz n=nszs n.kids+1:=by cases n;rw[nsz];try rfl
abbrev infA(c:Cor)(t:Typ):AV:=.tup [.ag (c.enc.map .d),.ag (t.enc.map .d)]
abbrev zzY(n:Nod)(env:Env):List AV:=[.c (.ptr 0 0),.ag (n.enc.map .d),.c (.d (.sl false 5 (env.map encV)))]
section
variable (L:Lnk)
def MInf(f:FuncId)(n:Nod)(i:Inf):Prop:=∀env s b,EOk env (nsz n)->SOk L s (8*nsz n+b)->MCall Pg f (zzY n env) (ck6 L s) (infA (i env s).1.1 (i env s).1.2) (ck8 L (i env s).2)
def PInf(n:Nod)(i:Inf):Prop:=∀env s b,EOk env (nsz n)->SOk L s (8*nsz n+b)->SOk L (i env s).2 b/\wfT (i env s).1.2
abbrev zbC(n:Nod)(i:Inf):Prop:=MInf L 56 n i/\PInf L n i
theorem zAG(n a b:Nod)(hk:n.kids=[a,b])(ia ib:Inf)(ha:PInf L a ia)(hb:PInf L b ib):PInf L n (letC n a ia ib):=fun env s k he hs=>by
 have hn:nsz n=nsz a+nsz b+1:=by rw[za6,hk];simp[nszs]
 have h1:=ha env s (1+8*nsz b+k) (he.less (by omega)) (hs.less (by omega))
 unfold letC
 simp only
 by_cases q:0<n.types.length/\(ia env s).2.e=0
 ·rw[if_pos q]
  have h2:=za2 h1.1 (n.types.getD 0 noT) n.line n.col
  have h3:=coerceC_ok (b:=8*nsz b+k) (h2.1.less (by omega)) (ia env s).1.1 (ia env s).1.2 (zas (n.types.getD 0 noT) n.line n.col (ia env s).2).1 a.line a.col
  exact hb _ _ k ((he.less (c:=nsz b+1) (by omega)).more _ h2.2) h3
 ·rw[if_neg q]
  exact hb _ _ k ((he.less (c:=nsz b+1) (by omega)).more _ h1.2) (h1.1.less (by omega))
set_option maxRecDepth 20000 in
set_option maxHeartbeats 4000000 in
theorem zzb(n a b:Nod)(hk:n.kids=[a,b])(ia ib:Inf)(ha:zbC L a ia)(hb:zbC L b ib):MInf L 79 n (letC n a ia ib):=fun env s k he hs=>by
 refine zv5 ⟨by simp,by simp,by simp,by simp,by simp,by simp,by simp[live]⟩ fun ts hts ok hbk c hN hp=>?_
 obtain⟨t,u,v,w,x,y,rfl⟩:=zaV hts
 have hn:nsz n=nsz a+nsz b+1:=by rw[za6,hk];simp[nszs]
 have m1:=ha.1 env s (1+8*nsz b+k) (he.less (by omega)) (hs.less (by omega))
 have p1:=ha.2 env s (1+8*nsz b+k) (he.less (by omega)) (hs.less (by omega))
 unfold letC
 simp only
 generalize ia env s=r1 at*
 have hel:=he.len
 unfold mc_gc_let
 simp[hk]
 refine zaa.mk [0,1,2,3,4,5] m1 (by simp) ?_
 by_cases q:0<n.types.length/\r1.2.e=0
 ·rw[if_pos q]
  obtain⟨q1,q2⟩:=q
  have q1':(0:Int)<n.types.length:=by omega
  obtain⟨ta,tr,hty⟩:∃ta tr,n.types=ta::tr:=by
   match h:n.types,q1 with
   |ta::tr,_=>exact⟨ta,tr,rfl⟩
  have e3:n.types.getD 0 noT=ta:=by rw[hty];try rfl
  rw[e3]
  have m2:=zct L ta n.line n.col r1.2 p1.1.wth
  have p2:=za2 p1.1 ta n.line n.col
  generalize zas ta n.line n.col r1.2=r2 at*
  have m3:=zbu L r1.1.1 r1.1.2 r2.1 a r2.2 (by have:=p2.1.sites;omega)
  have p3:=coerceC_ok (b:=8*nsz b+k) (p2.1.less (by omega)) r1.1.1 r1.1.2 r2.1 a.line a.col
  generalize zaA r1.1.1 r1.1.2 r2.1 a.line a.col r2.2=r3 at*
  have hwi:=znR env (by omega) n.text r2.1
  have m4:=hb.1 (env++[(n.text,r2.1)]) r3.2 k ((he.less (c:=nsz b+1) (by omega)).more _ p2.2) p3
  simp only
  generalize ib (env++[(n.text,r2.1)]) r3.2=r4 at*
  simp[q1,q1',q2]
  simp[hty]
  refine zaa.mk [0,1,2,14,4,15] m2 (by simp[q2]) ?_
  simp[hk]
  refine⟨by decide,?_⟩
  refine zaa.mk [0,1,2,14,4,15] m3 (by simp) ?_
  simp[hk]
  refine⟨by decide,?_⟩
  refine zac.mk hwi ?_
  simp
  refine zaa.mk [0,1,2,19,4,15] m4 (by simp) ?_
  simp
  refine⟨by decide,by decide,?_⟩
  exact EndM.mkE [0,1,2,9,4,11,20,21] [6,7,8,9,10,11] (by simp[cK,zaj,encI,encS,AV.erds,AV.erd])
 ·rw[if_neg q]
  have hwi:=znR env (by omega) n.text r1.1.2
  have m4:=hb.1 (env++[(n.text,r1.1.2)]) r1.2 k ((he.less (c:=nsz b+1) (by omega)).more _ p1.2) (p1.1.less (by omega))
  generalize ib (env++[(n.text,r1.1.2)]) r1.2=r4 at*
  by_cases q1:0<n.types.length
  ·have q2:¬r1.2.e=0:=fun z=>q ⟨q1,z⟩
   have q1':(0:Int)<n.types.length:=by omega
   simp[q1,q1',q2,hk]
   refine zac.mk hwi ?_
   simp
   refine zaa.mk [0,1,2,14,4,15] m4 (by simp) ?_
   simp
   refine⟨by decide,by decide,?_⟩
   exact EndM.mkE [0,1,2,9,4,11,18,19] [6,7,8,9,10,11] (by simp[cK,zaj,encI,encS,AV.erds,AV.erd])
  ·have q1':¬(0:Int)<n.types.length:=by omega
   simp[q1,q1',hk]
   refine zac.mk hwi ?_
   simp
   refine zaa.mk [0,1,2,14,4,15] m4 (by simp) ?_
   simp
   refine⟨by decide,by decide,?_⟩
   exact EndM.mkE [0,1,2,9,4,11,18,19] [6,7,8,9,10,11] (by simp[cK,zaj,encI,encS,AV.erds,AV.erd])
end
end Go.Gr
namespace Go.Abs
theorem MCall.erd{P:Program}{f:FuncId}{args args':List AV}{bs:List Blk}{v:AV}{bs':List Blk}(hp:MCall P f args' bs v bs')(e:AV.erds args=args'):MCall P f args bs v bs':=by
 subst e
 exact⟨hp.1,hp.2.1,hp.2.2.1,hp.2.2.2.1,hp.2.2.2.2.1,fun h ρ w us H hG r=>hp.2.2.2.2.2 h ρ w us H hG (zat.erds r)⟩
end Go.Abs
namespace Go.Gr
open Go.Abs Go.Proofs
@[simp] theorem AV.erd_ag(l:List D):AV.erd (.ag (l.map .d))=.ag ((D.erdL l).map .d):=by
 induction l with
 |nil=>rfl
 |cons x l ih=>
  simp only[AV.erd,AV.ag.injEq,List.map_cons,D.erdL,List.map_map]at ih⊢
  rw[List.cons.injEq]
  exact⟨rfl,ih⟩
attribute [simp] Typ.erdLL
section
variable (L:Lnk)
theorem zgt(n:Nod)(i:Inf)(hi:PInf L n i)(t0:Typ)(env:Env)(s:CS)(k:Nat)(he:EOk env (nsz n))(hs:SOk L s (8*nsz n+1+k)):SOk L (zaZ n i t0 env s).2 k:=by
 have h1:=hi env s (1+k) (he.less (by omega)) (hs.less (by omega))
 unfold zaZ
 exact coerceC_ok (h1.1.less (by omega)) _ _ _ _ _
set_option maxRecDepth 20000 in
set_option maxHeartbeats 4000000 in
theorem zcu(n:Nod)(i:Inf)(hi:zbC L n i)(t0:Typ)(env:Env)(s:CS)(k:Nat)(he:EOk env (nsz n))(hs:SOk L s (8*nsz n+1+k)):
  MCall Pg 124 [.c (.ptr 0 0),.ag (n.enc.map .d),.c (.d (.sl false 5 (env.map encV))),.ag (t0.enc.map .d)] (ck6 L s) (.ag ((zaZ n i t0 env s).1.enc.map .d)) (ck8 L (zaZ n i t0 env s).2):=by
 refine zul ⟨by simp,by simp,by simp,by simp,by simp,by simp,by simp[live]⟩ fun ts hts ok hbk c hN hp=>?_
 obtain⟨t,u,v,w,x,y,rfl⟩:=zaV hts
 have m1:=hi.1 env s (1+k) (he.less (by omega)) (hs.less (by omega))
 have p1:=hi.2 env s (1+k) (he.less (by omega)) (hs.less (by omega))
 unfold zaZ
 simp only
 generalize i env s=r1 at*
 have m2:=zbu L r1.1.1 r1.1.2 t0 n r1.2 (by have:=p1.1.sites;omega)
 generalize zaA r1.1.1 r1.1.2 t0 n.line n.col r1.2=r2 at*
 unfold mc_gc_want
 simp
 refine zaa.mk [0,1,2,3,4,5] m1 (by simp) ?_
 simp
 refine zaa.mk [0,1,2,13,4,14] m2 (by simp) ?_
 simp
 exact EndM.mkE [0,1,2,9,4,11,17,14] [6,7,8,9,10,11] (by simp[cK,cN,cT,zaj,zan,fnT,zap,zaf,noC,encI,encS,AV.erds,AV.erd,D.erdL,D.erd,D.erdE,kid0,kid1])
theorem fn_p(n a:Nod)(hk:n.kids=[a])(ia:Inf)(ha:PInf L a ia):PInf L n (fnC n a ia):=fun env s k he hs=>by
 have hn:nsz n=nsz a+1:=by rw[za6,hk];simp[nszs]
 have h1:=za2 (b:=8*nsz a+1+k) (hs.less (by omega)) (n.types.getD 0 noT) n.line n.col
 unfold fnC
 simp only
 have h2:SOk L (if 1<n.types.length/\(zas (n.types.getD 0 noT) n.line n.col s).2.e=0 then zas (n.types.getD 1 noT) n.line n.col (zas (n.types.getD 0 noT) n.line n.col s).2 else(noT,(zas (n.types.getD 0 noT) n.line n.col s).2)).2 (8*nsz a+1+k):=by
  split
  ·exact(za2 h1.1 _ _ _).1
  ·exact h1.1
 generalize (if 1<n.types.length/\(zas (n.types.getD 0 noT) n.line n.col s).2.e=0 then zas (n.types.getD 1 noT) n.line n.col (zas (n.types.getD 0 noT) n.line n.col s).2 else(noT,(zas (n.types.getD 0 noT) n.line n.col s).2))=q at*
 have h3:=ha (env++[(n.text,(zas (n.types.getD 0 noT) n.line n.col s).1)]) q.2 (1+k) ((he.less (c:=nsz a+1) (by omega)).more _ h1.2) (h2.less (by omega))
 refine(zgh ?_ _ _ _)
 split
 ·exact coerceC_ok (h3.1.less (by omega)) _ _ _ _ _
 ·exact h3.1.less (by omega)
set_option maxRecDepth 20000 in
set_option maxHeartbeats 4000000 in
theorem zz0(n a:Nod)(hk:n.kids=[a])(hty0:1<=n.types.length)(ia:Inf)(ha:zbC L a ia):MInf L 80 n (fnC n a ia):=fun env s k he hs=>by
 refine zxZ ⟨by simp,by simp,by simp,by simp,by simp,by simp,by simp[live]⟩ fun ts hts ok hbk c hN hp=>?_
 obtain⟨t,u,v,w,x,y,rfl⟩:=zaV hts
 have hn:nsz n=nsz a+1:=by rw[za6,hk];simp[nszs]
 have hel:=he.len
 have hb0:=zaB 0
 obtain⟨ta,tr,hty⟩:∃ta tr,n.types=ta::tr:=by
  match h:n.types,hty0 with
  |ta::tr,_=>exact⟨ta,tr,rfl⟩
 have e3:n.types.getD 0 noT=ta:=by rw[hty];try rfl
 unfold fnC
 simp only
 rw[e3]
 have m1:=zct L ta n.line n.col s hs.wth
 have p1:=za2 (b:=8*nsz a+1+k) (hs.less (by omega)) ta n.line n.col
 generalize zas ta n.line n.col s=r1 at*
 have hwi:=znR env (by omega) n.text r1.1
 have heo:EOk (env++[(n.text,r1.1)]) (nsz a):=(he.less (c:=nsz a+1) (by omega)).more _ p1.2
 unfold mc_gc_fn
 cases tr with
 |nil=>
  have l1:n.types.length=1:=by rw[hty];try rfl
  rw[if_neg (by omega),if_neg (by omega)]
  have m3:=ha.1 (env++[(n.text,r1.1)]) r1.2 (1+k) heo (p1.1.less (by omega))
  simp only
  generalize ia (env++[(n.text,r1.1)]) r1.2=r3 at*
  have m4:=MCall.erd (args:=[.c (.ptr 0 0),.ag [.d (.int .i64 6),.d (.str (bs [])),.d (.sl true 1 []),.d (.sl true 4 [r1.1.enc,r3.1.2.enc])],.ag (n.enc.map .d)]) (zd5 L (fnT r1.1 r3.1.2) n r3.2) (by simp[AV.erds,AV.erd,AC.erd,D.erd,D.erdL,D.erdE,fnT,zan,zaf,zap,encS])
  generalize zbf (fnT r1.1 r3.1.2) n.line n.col r3.2=r4 at*
  simp[hty]
  refine zaa.mk [0,1,2,3,4,5] m1 (by simp) ?_
  simp
  refine⟨by decide,?_⟩
  refine zac.mk hb0 ?_
  simp[hty,hk]
  refine zac.mk hwi ?_
  simp
  refine zaa.mk [0,1,2,3,4,5] m3 (by simp) ?_
  simp[hty]
  refine⟨by decide,?_⟩
  refine zaa.mk [0,1,2,16,4,17] m4 (by simp) ?_
  simp
  refine⟨by decide,?_⟩
  exact EndM.mkE [0,1,2,9,4,11,16,17] [6,7,8,9,10,11] (by simp[cK,cN,cT,zaj,zan,fnT,zap,zaf,noC,encI,encS,AV.erds,AV.erd,D.erdL,D.erd,D.erdE,kid0,kid1])
 | cons tb tr=>
  have l1:1<n.types.length:=by rw[hty];simp
  have l1':(1:Int)<(tr.length:Int)+1+1:=by omega
  have e4:n.types.getD 1 noT=tb:=by rw[hty];try rfl
  rw[e4,if_pos l1]
  by_cases q2:r1.2.e=0
  ·rw[if_pos ⟨l1,q2⟩]
   have m2:=zct L tb n.line n.col r1.2 p1.1.wth
   have p2:=za2 p1.1 tb n.line n.col
   generalize zas tb n.line n.col r1.2=r2 at*
   have m3:=ha.1 (env++[(n.text,r1.1)]) r2.2 (1+k) heo (p2.1.less (by omega))
   have p3:=ha.2 (env++[(n.text,r1.1)]) r2.2 (1+k) heo (p2.1.less (by omega))
   generalize ia (env++[(n.text,r1.1)]) r2.2=r3 at*
   have m4:=zbu L r3.1.1 r3.1.2 r2.1 a r3.2 (by have:=p3.1.sites;omega)
   generalize zaA r3.1.1 r3.1.2 r2.1 a.line a.col r3.2=r4 at*
   have m5:=MCall.erd (args:=[.c (.ptr 0 0),.ag [.d (.int .i64 6),.d (.str (bs [])),.d (.sl true 1 []),.d (.sl true 4 [r1.1.enc,r2.1.enc])],.ag (n.enc.map .d)]) (zd5 L (fnT r1.1 r2.1) n r4.2) (by simp[AV.erds,AV.erd,AC.erd,D.erd,D.erdL,D.erdE,fnT,zan,zaf,zap,encS])
   simp only
   generalize zbf (fnT r1.1 r2.1) n.line n.col r4.2=r5 at*
   simp[hty]
   refine zaa.mk [0,1,2,3,4,5] m1 (by simp) ?_
   simp
   refine⟨by decide,?_⟩
   refine zac.mk hb0 ?_
   simp[hty,q2,l1']
   refine zaa.mk [0,1,2,3,4,5] m2 (by simp[q2]) ?_
   simp[hk]
   refine⟨by decide,?_⟩
   refine zac.mk hwi ?_
   simp
   refine zaa.mk [0,1,2,3,4,5] m3 (by simp) ?_
   simp[hty,l1',hk]
   refine⟨by decide,?_⟩
   refine zaa.mk [0,1,2,16,4,17] m4 (by simp) ?_
   simp
   refine⟨by decide,?_⟩
   refine zaa.mk [0,1,2,20,4,17] m5 (by simp) ?_
   simp
   refine⟨by decide,?_⟩
   exact EndM.mkE [0,1,2,9,4,11,20,17] [6,7,8,9,10,11] (by simp[cK,cN,cT,zaj,zan,fnT,zap,zaf,noC,encI,encS,AV.erds,AV.erd,D.erdL,D.erd,D.erdE,kid0,kid1])
  ·rw[if_neg (fun z=>q2 z.2)]
   have m3:=ha.1 (env++[(n.text,r1.1)]) r1.2 (1+k) heo (p1.1.less (by omega))
   have p3:=ha.2 (env++[(n.text,r1.1)]) r1.2 (1+k) heo (p1.1.less (by omega))
   generalize ia (env++[(n.text,r1.1)]) r1.2=r3 at*
   have m4:=MCall.erd (args:=[.c (.ptr 0 0),.ag (r3.1.1.enc.map .d),.ag (r3.1.2.enc.map .d),.ag (noT.enc.map .d),.ag (a.enc.map .d)]) (zbu L r3.1.1 r3.1.2 noT a r3.2 (by have:=p3.1.sites;omega)) (by simp[AV.erds,AV.erd,AC.erd,D.erd,D.erdL,D.erdE,fnT,zan,zaf,zap,encS])
   generalize zaA r3.1.1 r3.1.2 noT a.line a.col r3.2=r4 at*
   have m5:=MCall.erd (args:=[.c (.ptr 0 0),.ag [.d (.int .i64 6),.d (.str (bs [])),.d (.sl true 1 []),.d (.sl true 4 [r1.1.enc,noT.enc])],.ag (n.enc.map .d)]) (zd5 L (fnT r1.1 noT) n r4.2) (by simp[AV.erds,AV.erd,AC.erd,D.erd,D.erdL,D.erdE,fnT,zan,zaf,zap,encS])
   simp only
   generalize zbf (fnT r1.1 noT) n.line n.col r4.2=r5 at*
   simp[hty]
   refine zaa.mk [0,1,2,3,4,5] m1 (by simp) ?_
   simp
   refine⟨by decide,?_⟩
   refine zac.mk hb0 ?_
   simp[hty,q2,l1',hk]
   refine zac.mk hwi ?_
   simp
   refine zaa.mk [0,1,2,3,4,5] m3 (by simp) ?_
   simp[hty,l1',hk]
   refine⟨by decide,?_⟩
   refine zaa.mk [0,1,2,16,4,17] m4 (by simp[noT,bT]) ?_
   simp
   refine⟨by decide,?_⟩
   refine zaa.mk [0,1,2,20,4,17] m5 (by simp[noT,bT]) ?_
   simp
   refine⟨by decide,?_⟩
   exact EndM.mkE [0,1,2,9,4,11,20,17] [6,7,8,9,10,11] (by simp[cK,cN,cT,zaj,zan,fnT,zap,zaf,noC,encI,encS,AV.erds,AV.erd,D.erdL,D.erd,D.erdE,kid0,kid1])
theorem znG{L:Lnk}{b:Nat}(t0:Typ)(h0:wfT t0)(ln cl:Int)(r:(Cor × Typ) × CS)(hs:SOk L r.2 (b+1))(ht:wfT r.1.2):SOk L (anyC t0 ln cl r).2 b/\wfT (anyC t0 ln cl r).1.2:=by
 unfold anyC
 split
 ·exact⟨zeL hs _ _ _ _ _,h0⟩
 ·exact⟨hs.less (by omega),ht⟩
theorem zz1{a b:Typ}(ha:wfT a)(hb:wfT b):wfT (fnT a b):=(zaW _).2 ⟨rfl,fun x hx=>by
 have hx:x∈[a,b]:=hx
 simp at hx
 rcases hx with rfl|rfl
 ·exact ha
 ·exact hb,.inr (.inr (.inl ⟨rfl,rfl,rfl⟩))⟩
theorem zz2(n a b:Nod)(hk:n.kids=[a,b])(ia ib:Inf)(ha:PInf L a ia)(hb:PInf L b ib):PInf L n (zdv n b ia ib):=fun env s k he hs=>by
 have hn:nsz n=nsz a+nsz b+1:=by rw[za6,hk];simp[nszs]
 have h1:=ha env s (2+8*nsz b+k) (he.less (by omega)) (hs.less (by omega))
 have h2:=znG (b:=8*nsz b+1+k) (fnT noT noT) (zz1 zbh zbh) n.line n.col (ia env s) (h1.1.less (by omega)) h1.2
 unfold zdv
 simp only
 generalize anyC (fnT noT noT) n.line n.col (ia env s)=r at*
 by_cases q:r.1.2.kind≠6
 ·rw[if_pos q]
  exact⟨zbo (h2.1.less (by omega)) _ _ _,zbh⟩
 ·rw[if_neg q]
  have h3:=hb env r.2 (1+k) (he.less (by omega)) (h2.1.less (by omega))
  have hl:=zhy h2.2 (by omega)
  exact⟨coerceC_ok (h3.1.less (by omega)) _ _ _ _ _,zcU h2.2 (zcM hl).1⟩
set_option maxRecDepth 20000 in
set_option maxHeartbeats 4000000 in
theorem zxU(n a b:Nod)(hk:n.kids=[a,b])(ia ib:Inf)(ha:zbC L a ia)(hb:zbC L b ib):MInf L 81 n (zdv n b ia ib):=fun env s k he hs=>by
 refine zuk ⟨by simp,by simp,by simp,by simp,by simp,by simp,by simp[live]⟩ fun ts hts ok hbk c hN hp=>?_
 obtain⟨t,u,v,w,x,y,rfl⟩:=zaV hts
 have hn:nsz n=nsz a+nsz b+1:=by rw[za6,hk];simp[nszs]
 have hb0:=zaB 0
 have m1:=ha.1 env s (2+8*nsz b+k) (he.less (by omega)) (hs.less (by omega))
 have p1:=ha.2 env s (2+8*nsz b+k) (he.less (by omega)) (hs.less (by omega))
 unfold zdv
 simp only
 generalize ia env s=r1 at*
 unfold mc_gc_call
 by_cases t0:r1.1.2.kind=0
 ·have e1:anyC (fnT noT noT) n.line n.col r1=(((zaT r1.1.1 r1.1.2 (fnT noT noT) n.line n.col r1.2).1,fnT noT noT),(zaT r1.1.1 r1.1.2 (fnT noT noT) n.line n.col r1.2).2):=by unfold anyC;rw[if_pos t0]
  rw[e1]
  have m2:=MCall.erd (args:=[.c (.ptr 0 0),.ag (r1.1.1.enc.map .d),.ag (r1.1.2.enc.map .d),.ag [.d (.int .i64 6),.d (.str (bs [])),.d (.sl true 1 []),.d (.sl true 4 [[.int .i64 0,.str (bs []),.sl true 1 [],.sl true 4 []],[.int .i64 0,.str (bs []),.sl true 1 [],.sl true 4 []]])],.ag (n.enc.map .d)]) (zeK L r1.1.1 r1.1.2 (fnT noT noT) n r1.2 (by have:=p1.1.sites;omega)) (by simp[AV.erds,AV.erd,AC.erd,D.erd,D.erdL,D.erdE,fnT,zan,zaf,zap,encS])
  have p2:=zeL (b:=8*nsz b+1+k) (p1.1.less (by omega)) r1.1.1 r1.1.2 (fnT noT noT) n.line n.col
  generalize zaT r1.1.1 r1.1.2 (fnT noT noT) n.line n.col r1.2=r2 at*
  have m3:=hb.1 env r2.2 (1+k) (he.less (by omega)) (p2.less (by omega))
  have p3:=hb.2 env r2.2 (1+k) (he.less (by omega)) (p2.less (by omega))
  simp only
  generalize ib env r2.2=r3 at*
  have k6:¬(fnT noT noT).kind≠6:=by decide
  rw[if_neg k6]
  have kk0:kid0 (fnT noT noT)=noT:=rfl
  have kk1:kid1 (fnT noT noT)=noT:=rfl
  rw[kk0,kk1]
  have m4:=MCall.erd (args:=[.c (.ptr 0 0),.ag (r3.1.1.enc.map .d),.ag (r3.1.2.enc.map .d),.ag [.d (.int .i64 0),.d (.str (bs [])),.d (.sl true 1 []),.d (.sl true 4 [])],.ag (b.enc.map .d)]) (zbu L r3.1.1 r3.1.2 noT b r3.2 (by have:=p3.1.sites;omega)) (by simp[AV.erds,AV.erd,AC.erd,D.erd,D.erdL,D.erdE,fnT,zan,zaf,zap,encS])
  generalize zaA r3.1.1 r3.1.2 noT b.line b.col r3.2=r4 at*
  simp[hk]
  refine zaa.mk [0,1,2,3,4,5] m1 (by simp) ?_
  simp[t0]
  refine zaa.mk [0,1,2,14,4,15] m2 (by simp) ?_
  simp[hk]
  refine zaa.mk [0,1,2,19,4,15] m3 (by simp) ?_
  simp[hk]
  refine zaa.mk [0,1,2,20,4,21] m4 (by simp) ?_
  simp
  refine⟨by decide,by decide,?_⟩
  exact EndM.mkE [0,1,2,9,4,11,24,21] [6,7,8,9,10,11] (by simp[cK,cN,cT,zaj,zan,fnT,zap,zaf,noC,encI,encS,AV.erds,AV.erd,D.erdL,D.erd,D.erdE,kid0,kid1])
 have e1:anyC (fnT noT noT) n.line n.col r1=r1:=by unfold anyC;rw[if_neg t0]
 rw[e1]
 by_cases k6:r1.1.2.kind=6
 rotate_left
 ·rw[if_pos k6]
  have m2:=zb5 L n 16 r1.2
  generalize zaL n.line n.col 16 r1.2=r2 at*
  simp[hk]
  refine zaa.mk [0,1,2,3,4,5] m1 (by simp) ?_
  simp[t0,k6]
  refine zaa.mk [0,1,2,14,4,15] m2 (by simp) ?_
  simp
  refine zac.mk hb0 ?_
  simp
  exact EndM.mkE [0,1,2,9,4,11,14,15] [6,7,8,9,10,11] (by simp[cK,cN,cT,zaj,zan,fnT,zap,zaf,noC,encI,encS,AV.erds,AV.erd,D.erdL,D.erd,D.erdE,kid0,kid1])
 rw[if_neg (fun z=>z k6)]
 obtain⟨ta,tb,hty⟩:=zlR (zhy p1.2 k6)
 have kk0:kid0 r1.1.2=ta:=by unfold kid0;rw[hty];try rfl
 have kk1:kid1 r1.1.2=tb:=by unfold kid1;rw[hty];try rfl
 rw[kk0,kk1]
 have m3:=hb.1 env r1.2 (1+k) (he.less (by omega)) (p1.1.less (by omega))
 have p3:=hb.2 env r1.2 (1+k) (he.less (by omega)) (p1.1.less (by omega))
 generalize ib env r1.2=r3 at*
 have m4:=zbu L r3.1.1 r3.1.2 ta b r3.2 (by have:=p3.1.sites;omega)
 simp only
 generalize zaA r3.1.1 r3.1.2 ta b.line b.col r3.2=r4 at*
 simp[hk]
 refine zaa.mk [0,1,2,3,4,5] m1 (by simp) ?_
 simp[t0,k6,hk]
 refine zaa.mk [0,1,2,14,4,15] m3 (by simp) ?_
 simp[hty,hk]
 refine zaa.mk [0,1,2,18,4,19] m4 (by simp) ?_
 simp[hty]
 refine⟨by decide,by decide,?_⟩
 exact EndM.mkE [0,1,2,9,4,11,22,19] [6,7,8,9,10,11] (by simp[cK,cN,cT,zaj,zan,fnT,zap,zaf,noC,encI,encS,AV.erds,AV.erd,D.erdL,D.erd,D.erdE,kid0,kid1])
theorem zAH(n a:Nod)(hk:n.kids=[a])(ia:Inf)(ha:PInf L a ia):PInf L n (selC n ia):=fun env s k he hs=>by
 have hn:nsz n=nsz a+1:=by rw[za6,hk];simp[nszs]
 have h1:=ha env s (1+k) (he.less (by omega)) (hs.less (by omega))
 unfold selC
 simp only
 generalize ia env s=r at*
 have hf:wfT (zaz r.1.2 n.text).1:=by
  by_cases q:(zaz r.1.2 n.text).2=true
  ·exact zcU h1.2 (zfJ _ _ _ q)
  ·have:(zaz r.1.2 n.text).1=noT:=by
    unfold zaz at q⊢
    generalize r.1.2.names=ns at*
    generalize r.1.2.kids=ks at*
    clear h1
    induction ns generalizing ks with
    |nil=>rw[zbx];all_goals (intros;contradiction)
    | cons x ns ih=>
     cases ks with
     |nil=>rw[zbx];all_goals (intros;contradiction)
     |cons y ks=>
      rw[zbx]at q⊢
      by_cases e:x=n.text
      ·rw[if_pos e]at q;exact absurd rfl q
      ·rw[if_neg e]at q⊢;exact ih ks q
   rw[this];exact zbh
 refine⟨?_,hf⟩
 have h2:SOk L (if r.1.2.kind=0 then zaT r.1.1 r.1.2 (.mk 5 (bs []) [n.text] [noT]) n.line n.col r.2 else(r.1.1,r.2)).2 k:=by
  split
  ·exact zeL (h1.1.less (by omega)) _ _ _ _ _
  ·exact h1.1.less (by omega)
 split
 ·exact h2
 ·exact zbo h2 _ _ _
set_option maxRecDepth 20000 in
set_option maxHeartbeats 4000000 in
theorem zze(n a:Nod)(hk:n.kids=[a])(ia:Inf)(ha:zbC L a ia):MInf L 83 n (selC n ia):=fun env s k he hs=>by
 refine zv6 ⟨by simp,by simp,by simp,by simp,by simp,by simp,by simp[live]⟩ fun ts hts ok hbk c hN hp=>?_
 obtain⟨t,u,v,w,x,y,rfl⟩:=zaV hts
 have hn:nsz n=nsz a+1:=by rw[za6,hk];simp[nszs]
 have m1:=ha.1 env s (1+k) (he.less (by omega)) (hs.less (by omega))
 have p1:=ha.2 env s (1+k) (he.less (by omega)) (hs.less (by omega))
 unfold selC
 simp only
 generalize ia env s=r1 at*
 have hf:=zly r1.1.2 n.text (zmr p1.2)
 generalize hfr:zaz r1.1.2 n.text=f at*
 unfold mc_gc_sel
 by_cases t0:r1.1.2.kind=0
 ·rw[if_pos t0,if_pos (.inr t0)]
  have m2:=MCall.erd (args:=[.c (.ptr 0 0),.ag (r1.1.1.enc.map .d),.ag (r1.1.2.enc.map .d),.ag [.d (.int .i64 5),.d (.str (bs [])),.d (.sl true 1 [[.str n.text]]),.d (.sl true 4 [[.int .i64 0,.str (bs []),.sl true 1 [],.sl true 4 []]])],.ag (n.enc.map .d)]) (zeK L r1.1.1 r1.1.2 (.mk 5 (bs []) [n.text] [noT]) n r1.2 (by have:=p1.1.sites;omega)) (by simp[AV.erds,AV.erd,AC.erd,D.erd,D.erdL,D.erdE,fnT,zan,zaf,zap,encS])
  generalize zaT r1.1.1 r1.1.2 (.mk 5 (bs []) [n.text] [noT]) n.line n.col r1.2=r2 at*
  simp[hk]
  refine zaa.mk [0,1,2,3,4,5] m1 (by simp) ?_
  simp
  refine zac.mk hf ?_
  simp[t0]
  refine zaa.mk [0,1,2,14,4,15] m2 (by simp) ?_
  simp
  refine⟨by decide,?_⟩
  exact EndM.mkE [0,1,2,9,4,11,20,15] [6,7,8,9,10,11] (by simp[cK,cN,cT,zaj,zan,fnT,zap,zaf,noC,encI,encS,AV.erds,AV.erd,D.erdL,D.erd,D.erdE,kid0,kid1])
 ·rw[if_neg t0]
  by_cases f2:f.2=true
  ·rw[if_pos (.inl f2)]
   simp[hk]
   refine zaa.mk [0,1,2,3,4,5] m1 (by simp) ?_
   simp
   refine zac.mk hf ?_
   simp[t0,f2]
   refine⟨by decide,?_⟩
   exact EndM.mkE [0,1,2,9,4,11,14,15] [6,7,8,9,10,11] (by simp[cK,cN,cT,zaj,zan,fnT,zap,zaf,noC,encI,encS,AV.erds,AV.erd,D.erdL,D.erd,D.erdE,kid0,kid1])
  ·rw[if_neg (by simp[f2,t0])]
   have m2:=zb5 L n 17 r1.2
   simp only
   generalize zaL n.line n.col 17 r1.2=r2 at*
   simp[hk]
   refine zaa.mk [0,1,2,3,4,5] m1 (by simp) ?_
   simp
   refine zac.mk hf ?_
   simp[t0,f2]
   refine zaa.mk [0,1,2,14,4,15] m2 (by simp) ?_
   simp
   refine⟨by decide,?_⟩
   exact EndM.mkE [0,1,2,9,4,11,14,15] [6,7,8,9,10,11] (by simp[cK,cN,cT,zaj,zan,fnT,zap,zaf,noC,encI,encS,AV.erds,AV.erd,D.erdL,D.erd,D.erdE,kid0,kid1])
end
end Go.Gr
namespace Go.Gr
open Go.Abs Go.Proofs
section
variable (L:Lnk)
theorem as_p(n a:Nod)(hk:n.kids=[a])(ia:Inf)(ha:PInf L a ia):PInf L n (asC n ia):=fun env s k he hs=>by
 have hn:nsz n=nsz a+1:=by rw[za6,hk];simp[nszs]
 have h1:=ha env s (2+k) (he.less (by omega)) (hs.less (by omega))
 unfold asC
 simp only
 generalize ia env s=r at*
 by_cases q1:r.2.e≠0
 ·rw[if_pos q1];exact⟨h1.1.less (by omega),h1.2⟩
 rw[if_neg q1]
 have h2:=za2 h1.1 (n.types.getD 0 noT) n.line n.col
 generalize zas (n.types.getD 0 noT) n.line n.col r.2=u at*
 by_cases q2:u.2.e≠0\/SubR r.1.2 u.1=true
 ·rw[if_pos q2];exact⟨h2.1.less (by omega),h2.2⟩
 rw[if_neg q2]
 have h3:SOk L (if r.1.2.kind≠0 then zaT r.1.1 r.1.2 noT n.line n.col u.2 else(r.1.1,u.2)).2 (1+k):=by
  split
  ·exact zeL (h2.1.less (by omega)) _ _ _ _ _
  ·exact h2.1.less (by omega)
 generalize (if r.1.2.kind≠0 then zaT r.1.1 r.1.2 noT n.line n.col u.2 else(r.1.1,u.2))=y at*
 split
 ·exact⟨h3.less (by omega),h2.2⟩
 split
 ·exact⟨zeL (h3.less (by omega)) _ _ _ _ _,h2.2⟩
 ·exact⟨h3.less (by omega),h2.2⟩
@[simp] theorem Cor.enc_0(c:Cor):c.enc[0]?=some (.int .i64 c.kind):=by rw[c.enc_eq];try rfl
@[simp] theorem Cor.enc_1(c:Cor):c.enc[1]?=some (.int .i64 c.n):=by rw[c.enc_eq];try rfl
@[simp] theorem Cor.enc_g0(c:Cor)(h:0<c.enc.length):c.enc[0]=.int .i64 c.kind:=zdM c.enc_0 h
@[simp] theorem Cor.enc_g1(c:Cor)(h:1<c.enc.length):c.enc[1]=.int .i64 c.n:=zdM c.enc_1 h
set_option maxRecDepth 20000 in
set_option maxHeartbeats 4000000 in
theorem zzN(n a:Nod)(hk:n.kids=[a])(hty0:1<=n.types.length)(ia:Inf)(ha:zbC L a ia):MInf L 86 n (asC n ia):=fun env s k he hs=>by
 refine zx0 ⟨by simp,by simp,by simp,by simp,by simp,by simp,by simp[live]⟩ fun ts hts ok hbk c hN hp=>?_
 obtain⟨t,u,v,w,x,y,rfl⟩:=zaV hts
 have hn:nsz n=nsz a+1:=by rw[za6,hk];simp[nszs]
 have hb0:=zaB 0
 obtain⟨ta,tr,hty⟩:∃ta tr,n.types=ta::tr:=by
  match h:n.types,hty0 with
  |ta::tr,_=>exact⟨ta,tr,rfl⟩
 have e3:n.types.getD 0 noT=ta:=by rw[hty];try rfl
 have m1:=ha.1 env s (2+k) (he.less (by omega)) (hs.less (by omega))
 have p1:=ha.2 env s (2+k) (he.less (by omega)) (hs.less (by omega))
 unfold asC
 simp only
 rw[e3]
 generalize ia env s=r1 at*
 unfold mc_gc_as
 by_cases q1:r1.2.e=0
 rotate_left
 ·rw[if_pos q1]
  simp[hk]
  refine zaa.mk [0,1,2,3,4,5] m1 (by simp) ?_
  simp[q1]
  refine⟨by decide,?_⟩
  exact EndM.mkE [0,1,2,9,4,11,14,15] [6,7,8,9,10,11] (by simp[cK,cN,cT,zaj,zan,fnT,zap,zaf,noC,encI,encS,AV.erds,AV.erd,D.erdL,D.erd,D.erdE,kid0,kid1])
 rw[if_neg (by simp[q1])]
 have m2:=zct L ta n.line n.col r1.2 p1.1.wth
 have p2:=za2 p1.1 ta n.line n.col
 generalize zas ta n.line n.col r1.2=r2 at*
 have hsb:=zjv r1.1.2 r2.1
 by_cases q2:r2.2.e=0
 rotate_left
 ·rw[if_pos (.inl q2)]
  simp[hk]
  refine zaa.mk [0,1,2,3,4,5] m1 (by simp) ?_
  simp[q1,hty]
  refine zaa.mk [0,1,2,14,4,15] m2 (by simp[q1]) ?_
  simp[q2]
  refine⟨by decide,by decide,?_⟩
  exact EndM.mkE [0,1,2,9,4,11,14,15] [6,7,8,9,10,11] (by simp[cK,cN,cT,zaj,zan,fnT,zap,zaf,noC,encI,encS,AV.erds,AV.erd,D.erdL,D.erd,D.erdE,kid0,kid1])
 by_cases q3:SubR r1.1.2 r2.1=true
 ·rw[if_pos (.inr q3)]
  simp[hk]
  refine zaa.mk [0,1,2,3,4,5] m1 (by simp) ?_
  simp[q1,hty]
  refine zaa.mk [0,1,2,14,4,15] m2 (by simp[q1]) ?_
  simp[q2]
  refine⟨by decide,?_⟩
  refine zac.mk hsb ?_
  simp[q3]
  refine⟨by decide,?_⟩
  exact EndM.mkE [0,1,2,9,4,11,14,15] [6,7,8,9,10,11] (by simp[q2,cK,cN,cT,zaj,zan,fnT,zap,zaf,noC,encI,encS,AV.erds,AV.erd,D.erdL,D.erd,D.erdE,kid0,kid1])
 rw[if_neg (by simp[q2,q3])]
 by_cases t0:r1.1.2.kind=0
 ·have ty0:(if r1.1.2.kind≠0 then zaT r1.1.1 r1.1.2 noT n.line n.col r2.2 else(r1.1.1,r2.2))=(r1.1.1,r2.2):=if_neg (fun z=>z t0)
  rw[ty0]
  by_cases u0:r2.1.kind=0
  ·rw[if_pos u0]
   simp[hk]
   refine zaa.mk [0,1,2,3,4,5] m1 (by simp) ?_
   simp[q1,hty]
   refine zaa.mk [0,1,2,14,4,15] m2 (by simp[q1]) ?_
   simp[q2]
   refine⟨by decide,?_⟩
   refine zac.mk hsb ?_
   simp[q3,t0,u0]
   refine⟨by decide,?_⟩
   exact EndM.mkE [0,1,2,9,4,11,14,15] [6,7,8,9,10,11] (by simp[q2,cK,cN,cT,zaj,zan,fnT,zap,zaf,noC,encI,encS,AV.erds,AV.erd,D.erdL,D.erd,D.erdE,kid0,kid1])
  ·rw[if_neg u0,if_pos t0]
   have m3:=zeK L r1.1.1 r1.1.2 r2.1 n r2.2 (by have:=p2.1.sites;omega)
   simp only
   generalize zaT r1.1.1 r1.1.2 r2.1 n.line n.col r2.2=r3 at*
   simp[hk]
   refine zaa.mk [0,1,2,3,4,5] m1 (by simp) ?_
   simp[q1,hty]
   refine zaa.mk [0,1,2,14,4,15] m2 (by simp[q1]) ?_
   simp[q2]
   refine⟨by decide,?_⟩
   refine zac.mk hsb ?_
   simp[q3,t0,u0]
   refine zaa.mk [0,1,2,14,4,15] m3 (by simp[q2,t0]) ?_
   simp
   refine⟨by decide,?_⟩
   exact EndM.mkE [0,1,2,9,4,11,20,15] [6,7,8,9,10,11] (by simp[cK,cN,cT,zaj,zan,fnT,zap,zaf,noC,encI,encS,AV.erds,AV.erd,D.erdL,D.erd,D.erdE,kid0,kid1])
 ·have ty0:(if r1.1.2.kind≠0 then zaT r1.1.1 r1.1.2 noT n.line n.col r2.2 else(r1.1.1,r2.2))=zaT r1.1.1 r1.1.2 noT n.line n.col r2.2:=if_pos t0
  rw[ty0]
  have m3:=zeK L r1.1.1 r1.1.2 noT n r2.2 (by have:=p2.1.sites;omega)
  generalize zaT r1.1.1 r1.1.2 noT n.line n.col r2.2=r3 at*
  by_cases u0:r2.1.kind=0
  ·rw[if_pos u0]
   simp[hk]
   refine zaa.mk [0,1,2,3,4,5] m1 (by simp) ?_
   simp[q1,hty]
   refine zaa.mk [0,1,2,14,4,15] m2 (by simp[q1]) ?_
   simp[q2]
   refine⟨by decide,?_⟩
   refine zac.mk hsb ?_
   simp[q3,t0]
   refine zac.mk hb0 ?_
   simp
   refine zaa.mk [0,1,2,14,4,15] m3 (by simp[q2,noT,bT]) ?_
   simp[u0]
   refine⟨by decide,by decide,?_⟩
   exact EndM.mkE [0,1,2,9,4,11,20,15] [6,7,8,9,10,11] (by simp[cK,cN,cT,zaj,zan,fnT,zap,zaf,noC,encI,encS,AV.erds,AV.erd,D.erdL,D.erd,D.erdE,kid0,kid1])
  ·rw[if_neg u0,if_neg t0]
   simp[hk]
   refine zaa.mk [0,1,2,3,4,5] m1 (by simp) ?_
   simp[q1,hty]
   refine zaa.mk [0,1,2,14,4,15] m2 (by simp[q1]) ?_
   simp[q2]
   refine⟨by decide,?_⟩
   refine zac.mk hsb ?_
   simp[q3,t0]
   refine zac.mk hb0 ?_
   simp
   refine zaa.mk [0,1,2,14,4,15] m3 (by simp[q2,noT,bT]) ?_
   simp[u0,t0]
   refine⟨by decide,by decide,?_⟩
   exact EndM.mkE [0,1,2,9,4,11,20,15] [6,7,8,9,10,11] (by simp[cK,cN,cT,zaj,zan,fnT,zap,zaf,noC,encI,encS,AV.erds,AV.erd,D.erdL,D.erd,D.erdE,kid0,kid1])
theorem zAx(n a:Nod)(hk:n.kids=[a])(ia:Inf)(ha:PInf L a ia):PInf L n (oneC n a ia):=fun env s k he hs=>by
 have hn:nsz n=nsz a+1:=by rw[za6,hk];simp[nszs]
 have h1:=ha env s k (he.less (by omega)) (hs.less (by omega))
 have hw:=fun t0=>zgt L a ia ha t0 env s k (he.less (by omega)) (hs.less (by omega))
 unfold oneC
 split
 ·exact⟨hw _,zbE 2 (by omega) (by omega)⟩
 split
 ·exact⟨hw _,zbE 3 (by omega) (by omega)⟩
 split
 ·exact⟨h1.1,zbE 2 (by omega) (by omega)⟩
 ·exact⟨h1.1,zbE 1 (by omega) (by omega)⟩
set_option maxRecDepth 20000 in
set_option maxHeartbeats 4000000 in
theorem zy3(n a:Nod)(hk:n.kids=[a])(ia:Inf)(ha:zbC L a ia):MInf L 88 n (oneC n a ia):=fun env s k he hs=>by
 refine zv7 ⟨by simp,by simp,by simp,by simp,by simp,by simp,by simp[live]⟩ fun ts hts ok hbk c hN hp=>?_
 obtain⟨t,u,v,w,x,y,rfl⟩:=zaV hts
 have hn:nsz n=nsz a+1:=by rw[za6,hk];simp[nszs]
 unfold oneC
 unfold mc_gc_one
 by_cases k15:n.kind=15
 ·rw[if_pos k15]
  have m1:=zcu L a ia ha (bT 2) env s k (he.less (by omega)) (hs.less (by omega))
  simp only
  generalize zaZ a ia (bT 2) env s=r1 at*
  simp[k15,hk]
  refine zac.mk (zaB 2) ?_
  simp
  refine zaa.mk [0,1,2,3,4,5] m1 (by simp) ?_
  simp
  refine⟨by decide,?_⟩
  refine zac.mk (zaB 2) ?_
  simp
  refine⟨by decide,?_⟩
  exact EndM.mkE [0,1,2,9,4,11,14,15] [6,7,8,9,10,11] (by simp[cK,cN,cT,zaj,zan,fnT,zap,zaf,noC,encI,encS,AV.erds,AV.erd,D.erdL,D.erd,D.erdE,kid0,kid1])
 rw[if_neg k15]
 by_cases k16:n.kind=16
 ·rw[if_pos k16]
  have m1:=zcu L a ia ha (bT 3) env s k (he.less (by omega)) (hs.less (by omega))
  simp only
  generalize zaZ a ia (bT 3) env s=r1 at*
  simp[k16,hk]
  refine zac.mk (zaB 3) ?_
  simp
  refine zaa.mk [0,1,2,3,4,5] m1 (by simp) ?_
  simp
  refine⟨by decide,?_⟩
  refine zac.mk (zaB 3) ?_
  simp
  refine⟨by decide,?_⟩
  exact EndM.mkE [0,1,2,9,4,11,14,15] [6,7,8,9,10,11] (by simp[cK,cN,cT,zaj,zan,fnT,zap,zaf,noC,encI,encS,AV.erds,AV.erd,D.erdL,D.erd,D.erdE,kid0,kid1])
 rw[if_neg k16]
 have m1:=ha.1 env s k (he.less (by omega)) (hs.less (by omega))
 generalize ia env s=r1 at*
 by_cases k12:n.kind=12
 ·rw[if_pos k12]
  simp[k12,hk]
  refine zaa.mk [0,1,2,3,4,5] m1 (by simp) ?_
  simp
  refine zac.mk (zaB 2) ?_
  simp
  refine⟨by decide,?_⟩
  exact EndM.mkE [0,1,2,9,4,11,14,15] [6,7,8,9,10,11] (by simp[cK,cN,cT,zaj,zan,fnT,zap,zaf,noC,encI,encS,AV.erds,AV.erd,D.erdL,D.erd,D.erdE,kid0,kid1])
 ·rw[if_neg k12]
  simp[k15,k16,k12,hk]
  refine zaa.mk [0,1,2,3,4,5] m1 (by simp) ?_
  simp
  refine zac.mk (zaB 1) ?_
  simp
  refine⟨by decide,?_⟩
  exact EndM.mkE [0,1,2,9,4,11,14,15] [6,7,8,9,10,11] (by simp[cK,cN,cT,zaj,zan,fnT,zap,zaf,noC,encI,encS,AV.erds,AV.erd,D.erdL,D.erd,D.erdE,kid0,kid1])
end
end Go.Gr
namespace Go.Gr
open Go.Abs Go.Proofs
section
variable (L:Lnk)
def opAt(s:ByteArray):Nat->Int
 |0=>0
 |i+1=>if zca[i]?=some s then(i:Int)else opAt s i
theorem zwv(s:ByteArray):opAt s 11=opZ s:=by
 by_cases h:s∈zca
 ·simp only[zca,List.mem_cons,List.not_mem_nil,or_false]at h
  rcases h with h|h|h|h|h|h|h|h|h|h|h<;>subst h<;>decide
 ·have h2:∀i,zca[i]?≠some s:=fun i z=>h (List.mem_of_getElem? z)
  have h3:∀i,opAt s i=0:=fun i=>by
   induction i with
   |zero=>rfl
   |succ i ih=>rw[opAt,if_neg (h2 i),ih]
  have h4:∀(l:List ByteArray) (j:Nat),s∉l->fi (fun x=>decide (x=s)) j l= -1:=fun l=>by
   induction l with
   |nil=>intro j _;rfl
   |cons x l ih=>
    intro j hx
    have q:¬x=s:=fun z=>hx (by simp[z])
    rw[fi,if_neg (by simp[q]),ih _ (fun z=>hx (by simp[z]))]
  rw[h3,opZ,h4 _ _ h];try rfl
theorem op_p(n a b:Nod)(hk:n.kids=[a,b])(ia ib:Inf)(ha:PInf L a ia)(hb:PInf L b ib):PInf L n (opC n a b ia ib):=fun env s k he hs=>by
 have hn:nsz n=nsz a+(nsz b+1):=by rw[za6,hk];simp[nszs];omega
 have w2:=fun t0 t1=>zgt L b ib hb t1 env (zaZ a ia t0 env s).2 k (he.less (by omega)) (zgt L a ia ha t0 env s (8*nsz b+1+k) (he.less (by omega)) (hs.less (by omega)))
 have i1:=ha env s (8*nsz b+k) (he.less (by omega)) (hs.less (by omega))
 have i2:=hb env (ia env s).2 k (he.less (by omega)) i1.1
 unfold opC
 split
 ·exact⟨w2 _ _,zbE 2 (by omega) (by omega)⟩
 split
 ·exact⟨w2 _ _,zbE 2 (by omega) (by omega)⟩
 split
 ·exact⟨i2.1,zbE 2 (by omega) (by omega)⟩
 split
 ·exact⟨w2 _ _,zbE 4 (by omega) (by omega)⟩
 ·refine⟨w2 _ _,?_⟩
  simp only
  split
  ·exact zbE 2 (by omega) (by omega)
  ·exact zbE 3 (by omega) (by omega)
set_option maxRecDepth 20000 in
set_option maxHeartbeats 4000000 in
theorem zzt(n a b:Nod)(hk:n.kids=[a,b])(ia ib:Inf)(ha:zbC L a ia)(hb:zbC L b ib):MInf L 87 n (opC n a b ia ib):=fun env s k he hs=>by
 refine zx1 ⟨by simp,by simp,by simp,by simp,by simp,by simp,by simp[live]⟩ fun ts hts ok hbk c hN hp=>?_
 obtain⟨t,u,v,w,x,y,rfl⟩:=zaV hts
 have hn:nsz n=nsz a+(nsz b+1):=by rw[za6,hk];simp[nszs];omega
 have d21:¬bs [97,110,100]=bs [111,114]:=by decide
 have d31:¬bs [61,61]=bs [111,114]:=by decide
 have d32:¬bs [61,61]=bs [97,110,100]:=by decide
 have d41:¬bs [43,43]=bs [111,114]:=by decide
 have d42:¬bs [43,43]=bs [97,110,100]:=by decide
 have d43:¬bs [43,43]=bs [61,61]:=by decide
 unfold opC
 unfold zq9
 by_cases c1:n.text=bs [111,114]
 ·rw[if_pos c1]
  have m1:=zcu L a ia ha (bT 2) env s (8*nsz b+1+k) (he.less (by omega)) (hs.less (by omega))
  have p1:=zgt L a ia ha.2 (bT 2) env s (8*nsz b+1+k) (he.less (by omega)) (hs.less (by omega))
  simp only
  generalize zaZ a ia (bT 2) env s=r1 at*
  have m2:=zcu L b ib hb (bT 2) env r1.2 k (he.less (by omega)) (p1.less (by omega))
  generalize zaZ b ib (bT 2) env r1.2=r2 at*
  simp[c1,hk]
  refine zac.mk (zaB 2) ?_
  simp[c1,hk]
  refine zaa.mk [0,1,2,3,4,5] m1 (by simp) ?_
  simp[hk]
  refine⟨by decide,?_⟩
  refine zaa.mk [0,1,2,15,4,16] m2 (by simp) ?_
  simp
  refine⟨by decide,by decide,?_⟩
  exact EndM.mkE [0,1,2,9,4,11,18,19] [6,7,8,9,10,11] (by simp[cK,cN,cT,zaj,zan,fnT,zap,zaf,noC,encI,encS,AV.erds,AV.erd,D.erdL,D.erd,D.erdE,kid0,kid1])
 rw[if_neg c1]
 by_cases c2:n.text=bs [97,110,100]
 ·rw[if_pos c2]
  have m1:=zcu L a ia ha (bT 2) env s (8*nsz b+1+k) (he.less (by omega)) (hs.less (by omega))
  have p1:=zgt L a ia ha.2 (bT 2) env s (8*nsz b+1+k) (he.less (by omega)) (hs.less (by omega))
  simp only
  generalize zaZ a ia (bT 2) env s=r1 at*
  have m2:=zcu L b ib hb (bT 2) env r1.2 k (he.less (by omega)) (p1.less (by omega))
  generalize zaZ b ib (bT 2) env r1.2=r2 at*
  simp[c2,d21,hk]
  refine zac.mk (zaB 2) ?_
  simp[c2,d21,hk]
  refine zaa.mk [0,1,2,3,4,5] m1 (by simp) ?_
  simp[hk]
  refine⟨by decide,?_⟩
  refine zaa.mk [0,1,2,15,4,16] m2 (by simp) ?_
  simp
  refine⟨by decide,by decide,?_⟩
  exact EndM.mkE [0,1,2,9,4,11,18,19] [6,7,8,9,10,11] (by simp[cK,cN,cT,zaj,zan,fnT,zap,zaf,noC,encI,encS,AV.erds,AV.erd,D.erdL,D.erd,D.erdE,kid0,kid1])
 rw[if_neg c2]
 by_cases c3:n.text=bs [61,61]
 ·rw[if_pos c3]
  have m1:=ha.1 env s (8*nsz b+k) (he.less (by omega)) (hs.less (by omega))
  have p1:=ha.2 env s (8*nsz b+k) (he.less (by omega)) (hs.less (by omega))
  simp only
  generalize ia env s=r1 at*
  have m2:=hb.1 env r1.2 k (he.less (by omega)) (p1.1.less (by omega))
  generalize ib env r1.2=r2 at*
  simp[c3,d31,d32,hk]
  refine zac.mk (zaB 2) ?_
  simp[c3,d31,d32,hk]
  refine zaa.mk [0,1,2,3,4,5] m1 (by simp) ?_
  simp[hk]
  refine zaa.mk [0,1,2,15,4,16] m2 (by simp) ?_
  simp
  refine⟨by decide,?_⟩
  exact EndM.mkE [0,1,2,9,4,11,19,20] [6,7,8,9,10,11] (by simp[cK,cN,cT,zaj,zan,fnT,zap,zaf,noC,encI,encS,AV.erds,AV.erd,D.erdL,D.erd,D.erdE,kid0,kid1])
 rw[if_neg c3]
 by_cases c4:n.text=bs [43,43]
 ·rw[if_pos c4]
  have m1:=zcu L a ia ha (bT 4) env s (8*nsz b+1+k) (he.less (by omega)) (hs.less (by omega))
  have p1:=zgt L a ia ha.2 (bT 4) env s (8*nsz b+1+k) (he.less (by omega)) (hs.less (by omega))
  simp only
  generalize zaZ a ia (bT 4) env s=r1 at*
  have m2:=zcu L b ib hb (bT 4) env r1.2 k (he.less (by omega)) (p1.less (by omega))
  generalize zaZ b ib (bT 4) env r1.2=r2 at*
  simp[c4,d41,d42,d43,hk]
  refine zac.mk (zaB 2) ?_
  simp[c4,d41,d42,d43,hk]
  refine zac.mk (zaB 4) ?_
  simp[hk]
  refine zaa.mk [0,1,2,3,4,5] m1 (by simp) ?_
  simp[hk]
  refine⟨by decide,?_⟩
  refine zac.mk (zaB 4) ?_
  simp[hk]
  refine zaa.mk [0,1,2,15,4,16] m2 (by simp) ?_
  simp
  refine⟨by decide,?_⟩
  refine zac.mk (zaB 4) ?_
  simp[hk]
  refine⟨by decide,?_⟩
  exact EndM.mkE [0,1,2,9,4,11,18,19] [6,7,8,9,10,11] (by simp[cK,cN,cT,zaj,zan,fnT,zap,zaf,noC,encI,encS,AV.erds,AV.erd,D.erdL,D.erd,D.erdE,kid0,kid1])
 rw[if_neg c4]
 have m1:=zcu L a ia ha (bT 3) env s (8*nsz b+1+k) (he.less (by omega)) (hs.less (by omega))
 have p1:=zgt L a ia ha.2 (bT 3) env s (8*nsz b+1+k) (he.less (by omega)) (hs.less (by omega))
 simp only
 generalize zaZ a ia (bT 3) env s=r1 at*
 have m2:=zcu L b ib hb (bT 3) env r1.2 k (he.less (by omega)) (p1.less (by omega))
 generalize zaZ b ib (bT 3) env r1.2=r2 at*
 obtain⟨R,hR⟩:∃R,opZ n.text=R:=⟨_,rfl⟩
 have hR2:=zwv n.text
 rw[hR]at hR2⊢
 simp[c1,c2,c3,c4,hk]
 refine zac.mk (zaB 2) ?_
 simp[c1,c2,c3,c4,hk]
 refine W.loop zab hp (fun j:Nat=>j<=11) (fun j=>[(21,.c (.d (.int .i64 j))),(20,.c (.d (.int .i64 (opAt n.text j)))),(19,.c (.d (.sl true 1 (encS zca)))),(8,.c (.ptr 14 0)),(7,.c (.ptr 13 0)),(6,.c (.ptr 12 0)),(4,.c (.d (.rp n.enc 0))),(2,.c (.d (.sl false 5 (env.map encV)))),(0,.c (.ptr 0 0))]) (fun _=>[ckBx L s 2 3 4,tbB 256 s.tab.length 5,funA s.funs,sitA s.sites,diaA s.bad,tabA s.tab,.pin t 0,.pin u 1,.pin v 2,.pin w 3,.pin x 4,.pin y 5,.box [.d (.int .i64 0),.d (.int .i64 0),.d (.str (bs [])),.d (.sl true 1 []),.d (.sl true 1 []),.d (.sl true 4 []),.d (.sl true 5 []),.d (.sl true 8 [])],.box [.d (.int .i64 0),.d (.str (bs [])),.d (.sl true 1 []),.d (.sl true 4 [])],.box ((bT 2).enc.map .d)]) (fun j=>11-j) 0 [0,1,2,3,4,5,6,7,8,9,10,11,12,13,14] (by simp) (by simp[encS,zca,opAt]) fun j h1=>?_
 unfold lp_gc_op_1
 simp
 refine gd.mk (fun h=>?_) (fun h=>?_)
 ·have hj:j<11:=by simpa[zca]using h
  have hj2:j<zca.length:=by simpa[zca]using hj
  obtain⟨z,hz⟩:∃z,zca[j]=z:=⟨_,rfl⟩
  have hz2:zca[j]?=some z:=by rw[List.getElem?_eq_getElem hj2,hz]
  have hw:=wrap_i64 (n:=(j:Int)+1) (by omega) (by omega)
  simp[hj2,hz]
  refine⟨by decide,?_⟩
  refine gd.mk (fun h=>?_) (fun h=>?_)
  ·have e:opAt n.text (j+1)=(j:Int):=by rw[opAt,hz2];simp at h;rw[if_pos (by rw[h])]
   try simp
   refine Abs.Next.mk (j+1) [0,1,2,3,4,5,6,7,8,9,10,11,12,13,14] (by omega) (by omega) ?_
   simp[hw,e]
  ·have e:opAt n.text (j+1)=opAt n.text j:=by rw[opAt,hz2];simp at h;rw[if_neg (fun q=>h (by simpa using q))]
   try simp
   refine Abs.Next.mk (j+1) [0,1,2,3,4,5,6,7,8,9,10,11,12,13,14] (by omega) (by omega) ?_
   simp[hw,e]
 have hj:j=11:=by simp[zca]at h;omega
 subst hj
 rw[hR2]
 simp[hk]
 refine zac.mk (zaB 3) ?_
 simp[hk]
 refine zaa.mk [0,1,2,3,4,5] m1 (by simp) ?_
 simp[hk]
 refine⟨by decide,?_⟩
 refine zac.mk (zaB 3) ?_
 simp[hk]
 refine zaa.mk [0,1,2,15,4,16] m2 (by simp) ?_
 simp
 refine⟨by decide,?_⟩
 refine zac.mk (zaB 3) ?_
 simp
 by_cases c9:9<=R
 ·rw[if_pos c9]
  simp[c9]
  refine⟨by decide,?_⟩
  exact EndM.mkE [0,1,2,9,4,11,18,19] [6,7,8,9,10,11] (by simp[cK,cN,cT,zaj,zan,fnT,zap,zaf,noC,encI,encS,AV.erds,AV.erd,D.erdL,D.erd,D.erdE,kid0,kid1])
 ·rw[if_neg c9]
  simp[c9]
  refine⟨by decide,?_⟩
  exact EndM.mkE [0,1,2,9,4,11,18,19] [6,7,8,9,10,11] (by simp[cK,cN,cT,zaj,zan,fnT,zap,zaf,noC,encI,encS,AV.erds,AV.erd,D.erdL,D.erd,D.erdE,kid0,kid1])
end
end Go.Gr
