/- Texts of ours, joined and written short by a program of ours. -/
import Derived.Test.YtnefbdgcccgodaaGreatJ10
import Derived.Test.YtnefbdgcccgodaaGreatJ09
set_option linter.unusedVariables false
set_option linter.unusedSimpArgs false
namespace Go.Abs
theorem MCall.frzV{P:Program}{f:FuncId}{args:List AV}{bs:List Blk}{ds:List DV}{V:DV}(hp:PCall P f ds V)(hd:∀(h h':PH) (v:Value),zaJ h V v->zaJ h' V v)(e:zfP (hpOf bs) args=some ds)
  (h1:(bs.all fun b=>b.tag !=0)=true) (h2:(bs.all fun b=>b.lv (live bs))=true) (h3:V.av.lv (live bs)=true):MCall P f args bs V.av bs:=by
 refine⟨hp.1,Nat.le_refl _,zhd h1,h3,fun b hb=>List.all_eq_true.1 h2 b hb,fun h ρ w argsC H hG r=>?_⟩
 have k:=ziv (n:=0) H (fun _ _ _ _=>Nat.zero_le _) args ds argsC e r
 refine(hp.2 (zbp h 0 w.heap) w argsC (zgm H) (hG.mono (zet H)) k).mono fun e w' hh=>?_
 obtain⟨vC,h',e1,e2,e3,e4,e5,e6,e7,e8⟩:=hh
 have hx:∀B,B<w.heap.size->w'.heap[B]?=w.heap[B]?:=e6
 have hP:∀B o,h B=some o->w'.heap[B]?=some o:=fun B o he=>by
  rw[e6 B (H.lt he)];exact H.pers B o he
 exact⟨vC,h,ρ,e1,⟨fun _ _ he=>he,fun B hB _=>rfl,e5,fun B hB _=>e6 B hB,fun b p hp hr=>.inr ⟨b,p,hp,hr,rfl⟩⟩,H.grow (fun _ _ he=>he) hP (fun B hB _=>⟨e6 B hB,rfl⟩),e7,zaJ.av (hd _ _ _ e8),fun _ _=>rfl⟩
end Go.Abs
namespace Go.Gr
open Go.Abs Go.Proofs
@[simp] theorem Ent.enc_length(e:Ent):e.enc.length=3:=rfl
@[simp] theorem Ent.enc_0(e:Ent):e.enc[0]?=some (.str e.name):=rfl
@[simp] theorem Ent.enc_1(e:Ent):e.enc[1]?=some (.int .i64 e.module):=rfl
@[simp] theorem Ent.enc_2(e:Ent):e.enc[2]?=some (.int .i64 e.decl):=rfl
@[simp] theorem Ent.enc_g0(e:Ent)(h:0<e.enc.length):e.enc[0]=.str e.name:=rfl
@[simp] theorem Ent.cut_enc(e:Ent):cut e.enc 0 3=e.enc:=rfl
@[simp] theorem Ent.cut_map(e:Ent):cut (e.enc.map AC.d) 0 3=e.enc.map .d:=rfl
@[simp] theorem Ent.er_map(e:Ent):e.enc.map D.er=e.enc:=rfl
@[simp] theorem Mdl.enc_0(m:Mdl):m.enc[0]?=some (.sl false 4 (m.imps.map Imp.enc)):=rfl
@[simp] theorem Mdl.enc_1(m:Mdl):m.enc[1]?=some (.sl false 15 (m.decs.map Dec.enc)):=rfl
@[simp] theorem Mdl.enc_g0(m:Mdl)(h:0<m.enc.length):m.enc[0]=.sl false 4 (m.imps.map Imp.enc):=rfl
@[simp] theorem Mdl.enc_g1(m:Mdl)(h:1<m.enc.length):m.enc[1]=.sl false 15 (m.decs.map Dec.enc):=rfl
@[simp] theorem Dec.enc_0(d:Dec):d.enc[0]?=some (.str d.name):=rfl
@[simp] theorem Dec.enc_1(d:Dec):d.enc[1]?=some (.bool d.exp):=rfl
@[simp] theorem Dec.enc_2(d:Dec):d.enc[2]?=some (.sl false 5 (d.vars.map encV)):=rfl
@[simp] theorem Dec.enc_3(d:Dec):d.enc[3]?=some (.str d.param):=rfl
@[simp] theorem Dec.enc_4(d:Dec):d.enc[4]?=some (.sl false 4 (d.types.map Typ.enc)):=rfl
theorem Dec.enc_13(d:Dec):d.enc[13]?=some (.int .i64 d.line):=by unfold Dec.enc;rw[Nod.enc_eq];try rfl
theorem Dec.enc_14(d:Dec):d.enc[14]?=some (.int .i64 d.col):=by unfold Dec.enc;rw[Nod.enc_eq];try rfl
attribute [simp] Dec.enc_13 Dec.enc_14
@[simp] theorem Dec.enc_g0(d:Dec)(h:0<d.enc.length):d.enc[0]=.str d.name:=rfl
@[simp] theorem Dec.enc_g1(d:Dec)(h:1<d.enc.length):d.enc[1]=.bool d.exp:=rfl
@[simp] theorem Dec.enc_g2(d:Dec)(h:2<d.enc.length):d.enc[2]=.sl false 5 (d.vars.map encV):=rfl
@[simp] theorem Dec.enc_g13(d:Dec)(h:13<d.enc.length):d.enc[13]=.int .i64 d.line:=by have:=d.enc_13;rw[List.getElem?_eq_getElem h]at this;exact Option.some.inj this
@[simp] theorem Dec.enc_g14(d:Dec)(h:14<d.enc.length):d.enc[14]=.int .i64 d.col:=by have:=d.enc_14;rw[List.getElem?_eq_getElem h]at this;exact Option.some.inj this
@[simp] theorem Imp.enc_0(x:Imp):x.enc[0]?=some (.str x.from_):=rfl
@[simp] theorem Imp.enc_1(x:Imp):x.enc[1]?=some (.sl false 1 (encS x.names)):=rfl
@[simp] theorem Imp.enc_2(x:Imp):x.enc[2]?=some (.int .i64 x.line):=rfl
@[simp] theorem Imp.enc_3(x:Imp):x.enc[3]?=some (.int .i64 x.col):=rfl
@[simp] theorem Imp.enc_g0(x:Imp)(h:0<x.enc.length):x.enc[0]=.str x.from_:=rfl
@[simp] theorem Imp.enc_g1(x:Imp)(h:1<x.enc.length):x.enc[1]=.sl false 1 (encS x.names):=rfl
@[simp] theorem Imp.enc_g2(x:Imp)(h:2<x.enc.length):x.enc[2]=.int .i64 x.line:=rfl
@[simp] theorem Imp.enc_g3(x:Imp)(h:3<x.enc.length):x.enc[3]=.int .i64 x.col:=rfl
@[simp] theorem Imp.cut_enc(x:Imp):cut x.enc 0 4=x.enc:=rfl
@[simp] theorem Imp.cut_map(x:Imp):cut (x.enc.map AC.d) 0 4=x.enc.map .d:=rfl
def scpE(s:List Ent):List D:=[.sl false 3 (s.map Ent.enc)]
theorem Lnk.enc_eq(l:Lnk):l.enc=[.sl false 1 (encS l.names),.sl false 2 (l.mods.map Mdl.enc),.sl false 1 (l.scopes.map scpE),.str l.main.name,.int .i64 l.main.module,.int .i64 l.main.decl]:=rfl
@[simp] theorem Lnk.enc_length(l:Lnk):l.enc.length=6:=rfl
@[simp] theorem Lnk.enc_0(l:Lnk):l.enc[0]?=some (.sl false 1 (encS l.names)):=rfl
@[simp] theorem Lnk.enc_1(l:Lnk):l.enc[1]?=some (.sl false 2 (l.mods.map Mdl.enc)):=rfl
@[simp] theorem Lnk.enc_2(l:Lnk):l.enc[2]?=some (.sl false 1 (l.scopes.map scpE)):=rfl
@[simp] theorem Lnk.enc_g0(l:Lnk)(h:0<l.enc.length):l.enc[0]=.sl false 1 (encS l.names):=rfl
@[simp] theorem Lnk.enc_g1(l:Lnk)(h:1<l.enc.length):l.enc[1]=.sl false 2 (l.mods.map Mdl.enc):=rfl
@[simp] theorem Lnk.enc_g2(l:Lnk)(h:2<l.enc.length):l.enc[2]=.sl false 1 (l.scopes.map scpE):=rfl
@[simp] theorem Lnk.cut_enc(l:Lnk):cut l.enc 0 6=l.enc:=rfl
@[simp] theorem Lnk.cut_map(l:Lnk):cut (l.enc.map AC.d) 0 6=l.enc.map .d:=rfl
@[simp] theorem Lnk.er_map(l:Lnk):l.enc.map D.er=l.enc:=rfl
theorem zm5{α:Type}(q:α->Bool):∀(j:Nat) (l:List α),fi q j l= -1\/((j:Int)<=fi q j l/\fi q j l<j+l.length)
 |j,[]=>.inl rfl
 | j,x::l=>by
  unfold fi
  split
  ·exact .inr ⟨Int.le_refl _,by simp;omega⟩
  ·rcases zm5 q (j+1) l with h|h
   ·exact .inl h
   ·exact .inr ⟨by omega,by simp;omega⟩
theorem zfl(names:List ByteArray)(s:ByteArray):PCall Pg 26 [.one (.sl false 1 (encS names)),.one (.str s)] (.one (.int .i64 (modZ names s))):=by
 refine zpI (by simp) fun o c hN hp=>?_
 have hl:names.length<=zah:=by have:=o.1;simp only[DV.ok,D.ok,zdQ]at this;exact this.1
 unfold zah at hl
 unfold zi2 modZ
 obtain⟨R,hR⟩:∃R,fi (fun n=>decide (n=s)) 0 names=R:=⟨_,rfl⟩
 rw[hR]
 simp
 refine W.loop zab hp (fun j:Nat=>j<=names.length/\fi (fun n=>decide (n=s)) j (names.drop j)=R) (fun j=>[(5,.c (.d (.int .i64 j))),(1,.c (.d (.str s))),(0,.c (.d (.sl false 1 (encS names))))]) (fun _=>[]) (fun j=>names.length-j) 0 [] ⟨by simp,by simpa using hR⟩ (by simp) fun j ⟨h1,h2⟩=>?_
 unfold lp_g07_module_0
 simp
 refine gd.mk (fun h=>?_) (fun h=>?_)
 ·have hj:j<names.length:=by simpa using h
  rw[List.drop_eq_getElem_cons hj,fi]at h2
  by_cases q:names[j]=s
  ·rw[if_pos (by simpa using q)]at h2
   subst h2
   simp[hj,q]
  ·rw[if_neg (by simpa using q)]at h2
   simp[hj,q]
   refine Abs.Next.mk (j+1) [] ⟨by omega,h2⟩ (by omega) ?_
   simp
   exact wrap_i64 (by omega) (by omega)
 ·have hj:j=names.length:=by simp at h;omega
  subst hj
  rw[List.drop_length,fi]at h2
  subst h2
  simp
theorem zsU(m:Mdl)(s:ByteArray)(hm:m.decs.length<=100000):PCall Pg 27 [.agg m.enc,.one (.str s)] (.one (.int .i64 (zcb m s))):=by
 refine ztn (by simp) fun o c hN hp=>?_
 unfold zkZ zcb
 obtain⟨R,hR⟩:∃R,fi (fun d:Dec=>decide (d.name=s)) 0 m.decs=R:=⟨_,rfl⟩
 rw[hR]
 simp
 refine W.loop zab hp (fun j:Nat=>j<=m.decs.length/\fi (fun d:Dec=>decide (d.name=s)) j (m.decs.drop j)=R) (fun j=>[(5,.c (.d (.int .i64 j))),(2,.c (.d (.rp m.enc 0))),(1,.c (.d (.str s)))]) (fun _=>[]) (fun j=>m.decs.length-j) 0 [] ⟨by simp,by simpa using hR⟩ (by simp) fun j ⟨h1,h2⟩=>?_
 unfold lp_g07_decl_0
 simp
 refine gd.mk (fun h=>?_) (fun h=>?_)
 ·have hj:j<m.decs.length:=by simpa using h
  rw[List.drop_eq_getElem_cons hj,fi]at h2
  by_cases q:m.decs[j].name=s
  ·rw[if_pos (by simpa using q)]at h2
   subst h2
   simp[hj,q]
  ·rw[if_neg (by simpa using q)]at h2
   simp[hj,q]
   refine Abs.Next.mk (j+1) [] ⟨by omega,h2⟩ (by omega) ?_
   simp
   exact wrap_i64 (by omega) (by omega)
 ·have hj:j=m.decs.length:=by simp at h;omega
  subst hj
  rw[List.drop_length,fi]at h2
  subst h2
  simp
abbrev entV(r:Ent × Bool):DV:=.tup [.agg r.1.enc,.one (.bool r.2)]
theorem zsV(l:List Ent)(s:ByteArray):PCall Pg 46 [.one (.sl false 3 (l.map Ent.enc)),.one (.str s)] (entV (zbz l s)):=by
 refine ztm (by simp) fun o c hN hp=>?_
 have hl:l.length<=zah:=by have:=o.1;simp only[DV.ok,D.ok,List.length_map]at this;exact this.1
 unfold zah at hl
 obtain⟨R,hR⟩:∃R,zbz l s=R:=⟨_,rfl⟩
 rw[hR]
 unfold zkY
 simp
 refine W.loop zab hp (fun j:Nat=>j<=l.length/\zbz (l.drop j) s=R) (fun j=>[(6,.c (.d (.int .i64 j))),(4,.c (.ptr 0 0)),(1,.c (.d (.str s))),(0,.c (.d (.sl false 3 (l.map Ent.enc))))]) (fun _=>[.box [.d (.str (bs [])),.d (.int .i64 0),.d (.int .i64 0)]]) (fun j=>l.length-j) 0 [0] ⟨by simp,by simpa using hR⟩ (by simp) fun j ⟨h1,h2⟩=>?_
 unfold lp_g07_Find_0
 simp
 refine gd.mk (fun h=>?_) (fun h=>?_)
 ·have hj:j<l.length:=by simpa using h
  rw[List.drop_eq_getElem_cons hj,zbz]at h2
  by_cases q:l[j].name=s
  ·rw[if_pos q]at h2
   subst h2
   simp[hj,q]
  ·rw[if_neg q]at h2
   simp[hj,q]
   refine Abs.Next.mk (j+1) [0] ⟨by omega,h2⟩ (by omega) ?_
   simp
   exact wrap_i64 (by omega) (by omega)
 ·have hj:j=l.length:=by simp at h;omega
  subst hj
  rw[List.drop_length,zbz]at h2
  subst h2
  simp
  rfl
theorem zwa(r:Ent × Bool):∀(h h':PH) (v:Value),zaJ h (entV r) v->zaJ h' (entV r) v:=fun h h' v q=>by
 simp only[entV,zaJ]at q⊢
 obtain⟨vs,e,r⟩:=q
 refine⟨vs,e,?_⟩
 rcases vs with _|⟨v1,_|⟨v2,vs⟩⟩
 ·simp[zaw]at r
 ·simp[zaw]at r
 ·simp only[zaw]at r⊢
  refine⟨?_,by simpa[zaJ,RepD]using r.2.1,r.2.2⟩
  have r1:=r.1
  simp only[zaJ]at r1⊢
  obtain⟨us,e1,e2,e3⟩:=r1
  refine⟨us,e1,e2,?_⟩
  rcases us with _|⟨u1,_|⟨u2,_|⟨u3,us⟩⟩⟩
  ·simp at e2
  ·simp at e2
  ·simp at e2
  ·simpa[Ent.enc,RepL,RepD]using e3
theorem zra(l:List Ent)(s:ByteArray):MCall Pg 46 [.c (.msl 3 0 0 l.length),.c (.d (.str s))] [.arr 3 ((l.map Ent.enc).map (·.map .d))] (.tup [.ag ((zbz l s).1.enc.map .d),.c (.d (.bool (zbz l s).2))]) [.arr 3 ((l.map Ent.enc).map (·.map .d))]:=by
 have:=MCall.frzV (bs:=[.arr 3 ((l.map Ent.enc).map (·.map .d))]) (args:=[.c (.msl 3 0 0 l.length),.c (.d (.str s))]) (zsV l s) (zwa _) (by simp[zaG]) (by simp) (by simp) (by simp[Ent.enc])
 simpa[entV,DV.av,DV.avs]using this
theorem zum(names:List ByteArray)(s:ByteArray):MCall Pg 26 [.c (.msl 1 0 0 names.length),.c (.d (.str s))] [.arr 1 ((encS names).map (·.map .d))] (.c (.d (.int .i64 (modZ names s)))) [.arr 1 ((encS names).map (·.map .d))]:=
 MCall.frzI (zfl names s) (by simp[zaG,List.take_of_length_le]) (by simp) (by simp)
theorem zzk(d:Dia)(i:Int):put (d.enc.map AC.d) 0 [.d (.int .i64 i)]=(⟨i,d.line,d.col,d.e⟩:Dia).enc.map .d:=rfl
def srcE(s:ByteArray × ByteArray):List D:=[.str s.1,.str s.2]
@[simp] theorem zAe(s:ByteArray × ByteArray):(srcE s).length=2:=rfl
@[simp] theorem zCc(s:ByteArray × ByteArray):(srcE s)[0]?=some (.str s.1):=rfl
@[simp] theorem zCd(s:ByteArray × ByteArray):(srcE s)[1]?=some (.str s.2):=rfl
@[simp] theorem zBW(s:ByteArray × ByteArray)(h:0<(srcE s).length):(srcE s)[0]=.str s.1:=rfl
@[simp] theorem zBX(s:ByteArray × ByteArray)(h:1<(srcE s).length):(srcE s)[1]=.str s.2:=rfl
def lnk1(x:List ByteArray × List Mdl):Lnk:=⟨x.1,x.2,[],noE⟩
abbrev lkZ:Blk:=.box [.d (.sl true 1 []),.d (.sl true 2 []),.d (.sl true 1 []),.d (.str (bs [])),.d (.int .i64 0),.d (.int .i64 0)]
abbrev fstT(l:List (ByteArray × ByteArray))(i nb:Nat):List (Nat × AV):=[(6,.c (.d (.int .i64 i))),(5,.c (.msl 4 4 0 nb)),(4,.c (.ptr 1 0)),(2,.c (.ptr 0 0)),(0,.c (.d (.sl false 2 (l.map srcE))))]
abbrev diaA(bad:List Dia):Blk:=.arr 4 ((bad.map Dia.enc).map (·.map .d))
abbrev fstB(ns:List ByteArray)(ms:List Mdl)(bad:List Dia):List Blk:=[lkZ,.box [.msl 1 2 0 ns.length,.msl 2 3 0 ms.length,.d (.sl true 1 []),.d (.str (bs [])),.d (.int .i64 0),.d (.int .i64 0)],.arr 1 ((encS ns).map (·.map .d)),.arr 2 ((ms.map Mdl.enc).map (·.map .d)),diaA bad]
set_option maxRecDepth 20000 in
set_option maxHeartbeats 2000000 in
theorem zx3(l:List (ByteArray × ByteArray)):PCall Pg 23 [.one (.sl false 2 (l.map srcE))] (.tup [.agg (lnk1 (zbQ l).1).enc,.one (.sl false 4 ((zbQ l).2.map Dia.enc))]):=by
 refine zrz (by simp) fun o c hN hp=>?_
 obtain⟨R,hR⟩:∃R,zbQ l=R:=⟨_,rfl⟩
 rw[hR]
 unfold zbQ at hR
 unfold zji
 by_cases h16:16<l.length
 ·have h16':(16:Int)<l.length:=by omega
  rw[if_pos h16]at hR
  subst hR
  simp[h16']
  exact⟨rfl,rfl⟩
 have h16':¬(16:Int)<l.length:=by omega
 rw[if_neg h16]at hR
 simp[h16,h16']
 refine owK.mk [.c 1 0,.c 1 1,.t 5] ?_
 simp
 refine W.loop zab hp (fun x:Nat × List ByteArray × List Mdl × List Dia=>x.1<=l.length/\x.2.1.length=x.1/\x.2.2.1.length=x.1/\x.2.2.2.length<=x.1/\zbj (l.drop x.1) x.1 x.2.1 x.2.2.1 x.2.2.2=R) (fun x=>fstT l x.1 x.2.2.2.length) (fun x=>fstB x.2.1 x.2.2.1 x.2.2.2) (fun x=>l.length-x.1) (0,[],[],[]) [0,1,2,3,4] ⟨by simp,rfl,rfl,by simp,by simpa using hR⟩ (by simp[encS]) fun⟨i,ns,ms,bad⟩ ⟨i1,i2,i3,i4,i5⟩=>?_
 unfold lp_g07_first_0
 simp only at i1 i2 i3 i4 i5
 simp
 refine gd.mk (fun h=>?_) (fun h=>?_)
 ·have hi:i<l.length:=by simpa using h
  obtain⟨s,hs⟩:∃s,l[i]=s:=⟨_,rfl⟩
  rw[List.drop_eq_getElem_cons hi,hs,zbj]at i5
  have hw:=wrap_i64 (n:=(i:Int)+1) (by omega) (by omega)
  have hmz:=zum ns s.1
  simp[hi,hs]
  refine zac.mk (zsS s.1) ?_
  simp[hi,hs]
  refine zac.mk (zwW s.2) ?_
  generalize zba s.2=m at*
  simp[hi,hs]
  refine zaa.mk [2] hmz (by simp) ?_
  generalize modZ ns s.1=z at*
  simp[hi,hs]
  refine⟨by decide,by omega,by decide,by omega,?_⟩
  by_cases n1:za1 s.1=true
  rotate_left
  ·rw[if_pos (by simpa using n1)]at i5
   simp[n1]
   refine⟨by omega,?_⟩
   refine Abs.Next.mk (i+1,ns++[s.1],ms++[m.1],bad++[⟨i,1,1,10⟩]) [0,1,7,8,9] ⟨by simp only;omega,by simp[i2],by simp[i3],by simp;omega,i5⟩ (by simp only;omega) ?_
   simp[hw,Dia.enc]
   exact⟨List.take_of_length_le (by simp),zaG _ _,zaG _ _⟩
  rw[if_neg (by simpa using n1)]at i5
  by_cases z1:0<=z
  ·rw[if_pos z1]at i5
   simp[n1,z1]
   refine⟨by omega,?_⟩
   refine Abs.Next.mk (i+1,ns++[s.1],ms++[m.1],bad++[⟨i,1,1,8⟩]) [0,1,7,8,9] ⟨by simp only;omega,by simp[i2],by simp[i3],by simp;omega,i5⟩ (by simp only;omega) ?_
   simp[hw,Dia.enc]
   exact⟨List.take_of_length_le (by simp),zaG _ _,zaG _ _⟩
  rw[if_neg z1]at i5
  by_cases e0:m.2.e=0
  ·rw[if_neg (by simp[e0])]at i5
   simp[n1,z1,e0]
   refine Abs.Next.mk (i+1,ns++[s.1],ms++[m.1],bad) [0,1,7,8,4] ⟨by simp only;omega,by simp[i2],by simp[i3],by simp only;omega,i5⟩ (by simp only;omega) ?_
   simp[hw,Dia.enc]
   exact⟨List.take_of_length_le (by simp),zaG _ _⟩
  ·rw[if_pos e0]at i5
   simp[n1,z1,e0,zzk]
   refine⟨by omega,?_⟩
   refine Abs.Next.mk (i+1,ns++[s.1],ms++[m.1],bad++[⟨i,m.2.line,m.2.col,m.2.e⟩]) [0,1,7,8,9] ⟨by simp only;omega,by simp[i2],by simp[i3],by simp;omega,i5⟩ (by simp only;omega) ?_
   simp[hw]
   exact⟨List.take_of_length_le (by simp),zaG _ _,zaG _ _⟩
 ·have hi:i=l.length:=by simp at h;omega
  subst hi
  rw[List.drop_length,zbj]at i5
  subst i5
  simp[zaG,lnk1,Lnk.enc_eq]
  exact⟨List.take_of_length_le (by simp),rfl,rfl,rfl⟩
end Go.Gr
namespace Go.Gr
open Go.Abs Go.Proofs
@[simp] theorem zBY(l:List ByteArray)(j:Nat)(h:j<(encS l).length):(encS l)[j]=[.str (l[j]'(by simpa using h))]:=by simp[encS]
structure SmallM (m:Mdl):Prop where
 imps:m.imps.length<=10001
 names:∀x,x∈m.imps->x.names.length<=10001
 decs:m.decs.length<=10001
def zeH(p:Lnk):Prop:=p.mods.length<=16/\p.names.length=p.mods.length/\∀m,m∈p.mods->SmallM m
abbrev entA(sc:List Ent):Blk:=.arr 3 ((sc.map Ent.enc).map (·.map .d))
theorem zrg(m:Mdl)(s:ByteArray):zcb m s= -1\/(0<=zcb m s/\zcb m s<m.decs.length):=by
 have:=zm5 (fun d:Dec=>decide (d.name=s)) 0 m.decs
 unfold zcb;omega
theorem zkH(ns:List ByteArray)(s:ByteArray):modZ ns s= -1\/(0<=modZ ns s/\modZ ns s<ns.length):=by
 have:=zm5 (fun n=>decide (n=s)) 0 ns
 unfold modZ;omega
theorem getD_in{α:Type}(l:List α)(d:α){z:Int}{n:Int}(hn:n=l.length)(h0:0<=z)(h1:z<n):l[z.toNat]?=some (l.getD z.toNat d)/\l.getD z.toNat d∈l:=by
 have h:z.toNat<l.length:=by omega
 rw[List.getD_eq_getElem?_getD,List.getElem?_eq_getElem h]
 exact⟨rfl,List.getElem_mem h⟩
theorem ziV(M:Mdl)(m i:Int)(x:Imp):∀(l:List ByteArray) (sc:List Ent) (bad:List Dia),(impN M m i x l sc bad).1.length<=sc.length+l.length/\(impN M m i x l sc bad).2.length<=bad.length+l.length
 |[],sc,bad=>by simp[impN]
 |s::l,sc,bad=>by
  rw[impN]
  split
  ·have:=ziV M m i x l sc (bad++[⟨i,x.line,x.col,12⟩]);simp at this⊢;omega
  split
  ·have:=ziV M m i x l sc (bad++[⟨i,x.line,x.col,8⟩]);simp at this⊢;omega
  ·have:=ziV M m i x l (sc++[⟨s,m,zcb M s⟩]) bad;simp at this⊢;omega
theorem zrh(ns:List ByteArray)(ms:List Mdl)(i:Int)(x:Imp)(sc:List Ent):(zbB ns ms i x sc).1.length<=sc.length+x.names.length/\(zbB ns ms i x sc).2.length<=1+x.names.length:=by
 unfold zbB
 split
 ·simp
 ·have:=ziV (ms.getD (modZ ns x.from_).toNat noM) (modZ ns x.from_) i x x.names sc []
  simp only[List.length_nil,Nat.zero_add]at this
  exact⟨this.1,by omega⟩
abbrev impT(p:Lnk)(x:Imp)(m j n nb:Nat):List (Nat × AV):=[(13,.c (.d (.int .i64 j))),(12,.c (.d (.int .i64 m))),(11,.c (.ptr 1 0)),(10,.c (.msl 4 2 0 nb)),(6,.c (.d (.rp x.enc 0))),(4,.c (.d (.rp p.enc 0))),(3,.c (.msl 3 0 0 n))]
abbrev dBx(i:Int)(x:Imp)(e:Int):Blk:=.box [.d (.int .i64 i),.d (.int .i64 x.line),.d (.int .i64 x.col),.d (.int .i64 e)]
set_option maxRecDepth 20000 in
set_option maxHeartbeats 4000000 in
theorem zr8(p:Lnk)(hp':zeH p)(i:Int)(x:Imp)(hx:x.names.length<=10001)(sc:List Ent)(hsc:sc.length<=1000000000):
  MCall Pg 45 [.ag (p.enc.map .d),.c (.d (.int .i64 i)),.ag (x.enc.map .d),.c (.msl 3 0 0 sc.length)] [entA sc]
   (.tup [.c (.msl 3 1 0 (zbB p.names p.mods i x sc).1.length),.c (.d (.sl false 4 ((zbB p.names p.mods i x sc).2.map Dia.enc)))]) [.dead,entA (zbB p.names p.mods i x sc).1]:=by
 refine zl8 ⟨by simp,by simp,by simp,by simp,by simp,by simp;rfl,by simp⟩ fun ts hts ok hb c hN hp=>?_
 obtain⟨t,rfl⟩:=zaR hts
 obtain⟨R,hR⟩:∃R,zbB p.names p.mods i x sc=R:=⟨_,rfl⟩
 rw[hR]
 unfold zbB at hR
 have hmz:=zfl p.names x.from_
 have hml:=zkH p.names x.from_
 unfold zgJ
 simp
 refine zac.mk hmz ?_
 generalize modZ p.names x.from_=z at*
 by_cases z0:z<0
 ·rw[if_pos z0]at hR
  subst hR
  simp[z0]
  refine⟨by decide,?_⟩
  refine fzK.mk [] ?_
  simp
  exact EndM.mkE [1,0] [1] (by simp[Dia.enc,AV.erds,AV.erd])
 rw[if_neg z0]at hR
 obtain⟨g1,g2⟩:=getD_in p.mods noM (z:=z) (n:=p.names.length) (by rw[hp'.2.1]) (by omega) (by omega)
 generalize p.mods.getD z.toNat noM=M at*
 have hM:=hp'.2.2 M g2
 have h16:=hp'.1
 have hnm:=hp'.2.1
 obtain⟨zn,rfl⟩:∃zn:Nat,z=zn:=⟨z.toNat,by omega⟩
 simp only[Int.toNat_natCast]at g1
 simp[z0]
 refine owK.mk [.t 10] ?_
 simp
 refine W.loop zab hp (fun y:Nat × List Ent × List Dia × Int=>y.1<=x.names.length/\y.2.1.length<=sc.length+y.1/\y.2.2.1.length<=y.1/\impN M zn i x (x.names.drop y.1) y.2.1 y.2.2.1=R) (fun y=>impT p x zn y.1 y.2.1.length y.2.2.1.length) (fun y=>[entA y.2.1,dBx i x y.2.2.2,diaA y.2.2.1]) (fun y=>x.names.length-y.1) (0,sc,[],11) [0,2,3] ⟨by simp,by simp,by simp,by simpa using hR⟩ (by simp) fun⟨j,s,bad,e⟩ ⟨i1,i2,i3,i4⟩=>?_
 unfold lp_g07_imported_0
 simp only at i1 i2 i3 i4
 simp
 refine gd.mk (fun h=>?_) (fun h=>?_)
 ·have hj:j<x.names.length:=by simpa using h
  obtain⟨n,hn⟩:∃n,x.names[j]=n:=⟨_,rfl⟩
  rw[List.drop_eq_getElem_cons hj,hn,impN]at i4
  have hw:=wrap_i64 (n:=(j:Int)+1) (by omega) (by omega)
  have hdl:=zrg M n
  have hfm:=zra s n
  simp[hj,hn,g1]
  refine zac.mk (zsU M n (by have:=hM.decs;omega)) ?_
  simp[hj,hn]
  refine⟨by decide,?_⟩
  refine zaa.mk [0] hfm (by simp) ?_
  generalize zbz s n=f at*
  generalize zcb M n=k at*
  simp
  by_cases k0:k<0
  ·rw[if_pos (.inl k0)]at i4
   simp[k0]
   refine⟨by omega,?_⟩
   refine Abs.Next.mk (j+1,s,bad++[⟨i,x.line,x.col,12⟩],12) [0,1,4] ⟨by simp only;omega,by simp only;omega,by simp;omega,i4⟩ (by simp only;omega) ?_
   simp[hw,Dia.enc]
   exact zaG _ _
  obtain⟨g3,g4⟩:=getD_in M.decs zg2 (z:=k) (n:=M.decs.length) rfl (by omega) (by omega)
  generalize M.decs.getD k.toNat zg2=d at*
  obtain⟨kn,rfl⟩:∃kn:Nat,k=kn:=⟨k.toNat,by omega⟩
  simp only[Int.toNat_natCast]at g3
  by_cases ex:d.exp=true
  rotate_left
  ·rw[if_pos (.inr (by simpa using ex))]at i4
   simp[k0,g1,g3,ex]
   refine⟨by omega,?_⟩
   refine Abs.Next.mk (j+1,s,bad++[⟨i,x.line,x.col,12⟩],12) [0,1,4] ⟨by simp only;omega,by simp only;omega,by simp;omega,i4⟩ (by simp only;omega) ?_
   simp[hw,Dia.enc]
   exact zaG _ _
  by_cases f2:f.2=true
  ·rw[if_neg (by simp[k0,ex]),if_pos f2]at i4
   simp[k0,g1,g3,ex,f2]
   refine⟨by omega,?_⟩
   refine Abs.Next.mk (j+1,s,bad++[⟨i,x.line,x.col,8⟩],8) [0,1,4] ⟨by simp only;omega,by simp only;omega,by simp;omega,i4⟩ (by simp only;omega) ?_
   simp[hw,Dia.enc]
   exact zaG _ _
  ·rw[if_neg (by simp[k0,ex]),if_neg f2]at i4
   simp[k0,g1,g3,ex,f2,hj,hn]
   refine⟨by omega,?_⟩
   refine Abs.Next.mk (j+1,s++[⟨n,zn,kn⟩],bad,e) [4,1,2] ⟨by simp only;omega,by simp;omega,by simp only;omega,i4⟩ (by simp only;omega) ?_
   simp[hw,Ent.enc]
   exact zaG _ _
 ·have hj:j=x.names.length:=by simp at h;omega
  subst hj
  rw[List.drop_length,impN]at i4
  subst i4
  simp
  refine fzK.mk [2] ?_
  simp[zak,zaG]
  exact EndM.mk [1,0] [1] (by simp[zak])
end Go.Gr
namespace Go.Gr
open Go.Abs Go.Proofs
abbrev allA(all:List (List Ent)):Blk:=.arr 1 ((all.map scpE).map (·.map .d))
abbrev secT(p:Lnk)(i na nb n:Nat):List (Nat × AV):=[(8,.c (.ptr 2 0)),(7,.c (.msl 3 3 0 n)),(6,.c (.d (.int .i64 i))),(5,.c (.msl 4 1 0 nb)),(4,.c (.msl 1 0 0 na)),(1,.c (.d (.rp p.enc 0)))]
abbrev secB(all:List (List Ent))(bad:List Dia)(m:Mdl)(sc:List Ent):List Blk:=[allA all,diaA bad,.box (m.enc.map .d),entA sc]
set_option maxRecDepth 20000 in
set_option maxHeartbeats 2000000 in
theorem ztR{c:Ctx}(hp:c.pure)(p:Lnk)(hp':zeH p)(i:Nat)(m:Mdl)(hm:SmallM m)(all:List (List Ent))(b0:List Dia)(hb0:b0.length<=10000000000)(F0:List Ent × List Dia)(hF:ze6 p.names p.mods i m.imps [] b0=F0){Q:Exit->St->Prop}{S:St}{g}{ms:List Nat}
  (h0:Match ms S ((9,.c (.d (.int .i64 0)))::secT p i all.length b0.length 0) (secB all b0 m []))
  (hQ:F0.1.length<=100020001->F0.2.length<=b0.length+100030002->∀T,Abs.look T 8=.c (.ptr 2 0)->Abs.look T 7=.c (.msl 3 3 0 F0.1.length)->Abs.look T 6=.c (.d (.int .i64 i))->Abs.look T 5=.c (.msl 4 1 0 F0.2.length)->Abs.look T 4=.c (.msl 1 0 0 all.length)->Abs.look T 1=.c (.d (.rp p.enc 0))->Q (.exit 2) ⟨T,hpOf (secB all F0.2 m F0.1),4⟩):lw_ Pg c lp_g07_second_2 Q g S:=by
 have hmi:=hm.imps
 refine W.loop zab hp (fun y:Nat × List Ent × List Dia=>y.1<=m.imps.length/\y.2.1.length<=y.1*10001/\y.2.2.length<=b0.length+y.1*10002/\ze6 p.names p.mods i (m.imps.drop y.1) y.2.1 y.2.2=F0) (fun y=>(9,.c (.d (.int .i64 y.1)))::secT p i all.length y.2.2.length y.2.1.length) (fun y=>secB all y.2.2 m y.2.1) (fun y=>m.imps.length-y.1) (0,[],b0) ms ⟨by simp,by simp,by simp,by simpa using hF⟩ h0 fun⟨k,sc,bad⟩ ⟨i1,i2,i3,i4⟩=>?_
 unfold lp_g07_second_2
 simp only at i1 i2 i3 i4
 simp
 have hk1:k*10001<=10001*10001:=Nat.mul_le_mul (by omega) (Nat.le_refl _)
 have hk2:k*10002<=10001*10002:=Nat.mul_le_mul (by omega) (Nat.le_refl _)
 refine gd.mk (fun h=>?_) (fun h=>?_)
 ·have hk:k<m.imps.length:=by simpa using h
  obtain⟨x,hx⟩:∃x,m.imps[k]=x:=⟨_,rfl⟩
  have hxm:=hm.names x (by rw[<-hx];exact List.getElem_mem hk)
  rw[List.drop_eq_getElem_cons hk,hx,ze6]at i4
  have hw:=wrap_i64 (n:=(k:Int)+1) (by omega) (by omega)
  have him:=zr8 p hp' i x hxm sc (by omega)
  have hil:=zrh p.names p.mods i x sc
  generalize zbB p.names p.mods i x sc=r at*
  simp[hk,hx]
  refine zaa.mk [3] him (by simp) ?_
  simp
  refine⟨by decide,by omega,?_⟩
  refine Abs.Next.mk (k+1,r.1,bad++r.2) [0,5,2,4] ⟨by simp only;omega,by simp only;omega,by simp;omega,i4⟩ (by simp only;omega) ?_
  simp[hw]
  exact zaG _ _
 ·have hk:k=m.imps.length:=by simp at h;omega
  subst hk
  rw[List.drop_length,ze6]at i4
  subst i4
  exact hQ (by simp only;omega) (by simp only;omega) _ (by simp) (by simp) (by simp) (by simp) (by simp) (by simp)
set_option maxRecDepth 20000 in
set_option maxHeartbeats 2000000 in
theorem ztS{c:Ctx}(hp:c.pure)(p:Lnk)(i:Nat)(m:Mdl)(hm:SmallM m)(all:List (List Ent))(s0:List Ent)(hs0:s0.length<=100020001)(b0:List Dia)(hb0:b0.length<=100000000000)(F0:List Ent × List Dia)(hF:zeA i m.decs 0 s0 b0=F0){Q:Exit->St->Prop}{S:St}{g}{ms:List Nat}
  (h0:Match ms S ((12,.c (.d (.int .i64 0)))::secT p i all.length b0.length s0.length) (secB all b0 m s0))
  (hQ:F0.2.length<=b0.length+10001->∀T,Abs.look T 7=.c (.msl 3 3 0 F0.1.length)->Abs.look T 6=.c (.d (.int .i64 i))->Abs.look T 5=.c (.msl 4 1 0 F0.2.length)->Abs.look T 4=.c (.msl 1 0 0 all.length)->Abs.look T 1=.c (.d (.rp p.enc 0))->Q (.exit 4) ⟨T,hpOf (secB all F0.2 m F0.1),4⟩):lw_ Pg c zem Q g S:=by
 have hmd:=hm.decs
 refine W.loop zab hp (fun y:Nat × List Ent × List Dia=>y.1<=m.decs.length/\y.2.1.length<=s0.length+y.1/\y.2.2.length<=b0.length+y.1/\zeA i (m.decs.drop y.1) y.1 y.2.1 y.2.2=F0) (fun y=>(12,.c (.d (.int .i64 y.1)))::secT p i all.length y.2.2.length y.2.1.length) (fun y=>secB all y.2.2 m y.2.1) (fun y=>m.decs.length-y.1) (0,s0,b0) ms ⟨by simp,by simp,by simp,by simpa using hF⟩ h0 fun⟨k,sc,bad⟩ ⟨i1,i2,i3,i4⟩=>?_
 unfold zem
 simp only at i1 i2 i3 i4
 simp
 refine gd.mk (fun h=>?_) (fun h=>?_)
 ·have hk:k<m.decs.length:=by simpa using h
  obtain⟨d,hd⟩:∃d,m.decs[k]=d:=⟨_,rfl⟩
  rw[List.drop_eq_getElem_cons hk,hd,zeA]at i4
  have hw:=wrap_i64 (n:=(k:Int)+1) (by omega) (by omega)
  have hfm:=zra sc d.name
  simp[hk,hd]
  refine zaa.mk [3] hfm (by simp) ?_
  generalize zbz sc d.name=f at*
  simp
  by_cases f2:f.2=true
  ·rw[if_pos f2]at i4
   simp[f2,hk,hd]
   refine⟨by omega,by decide,?_⟩
   refine Abs.Next.mk (k+1,sc,bad++[⟨i,d.line,d.col,8⟩]) [0,5,2,3] ⟨by simp only;omega,by simp only;omega,by simp;omega,i4⟩ (by simp only;omega) ?_
   simp[hw,Dia.enc]
   exact zaG _ _
  ·rw[if_neg f2]at i4
   simp[f2,hk,hd]
   refine⟨by omega,?_⟩
   refine Abs.Next.mk (k+1,sc++[⟨d.name,i,k⟩],bad) [0,1,2,5] ⟨by simp only;omega,by simp;omega,by simp only;omega,i4⟩ (by simp only;omega) ?_
   simp[hw,Ent.enc]
   exact zaG _ _
 ·have hk:k=m.decs.length:=by simp at h;omega
  subst hk
  rw[List.drop_length,zeA]at i4
  subst i4
  exact hQ (by simp only;omega) _ (by simp) (by simp) (by simp) (by simp) (by simp)
set_option maxRecDepth 20000 in
set_option maxHeartbeats 2000000 in
theorem zvu(p:Lnk)(hp':zeH p):PCall Pg 24 [.agg p.enc] (.tup [.one (.sl false 1 ((zbA p.names p.mods p.mods 0 [] []).1.map scpE)),.one (.sl false 4 ((zbA p.names p.mods p.mods 0 [] []).2.map Dia.enc))]):=by
 refine zpJ (by simp) fun o c hN hp=>?_
 obtain⟨R,hR⟩:∃R,zbA p.names p.mods p.mods 0 [] []=R:=⟨_,rfl⟩
 rw[hR]
 have h16:=hp'.1
 unfold zi3
 simp
 refine owK.mk [.t 4,.t 5] ?_
 simp
 refine W.loop zab hp (fun y:Nat × List (List Ent) × List Dia=>y.1<=p.mods.length/\y.2.1.length=y.1/\y.2.2.length<=y.1*200000000/\zbA p.names p.mods (p.mods.drop y.1) y.1 y.2.1 y.2.2=R) (fun y=>[(6,.c (.d (.int .i64 y.1))),(5,.c (.msl 4 1 0 y.2.2.length)),(4,.c (.msl 1 0 0 y.2.1.length)),(1,.c (.d (.rp p.enc 0)))]) (fun y=>[allA y.2.1,diaA y.2.2]) (fun y=>p.mods.length-y.1) (0,[],[]) [0,1] ⟨by simp,rfl,by simp,by simpa using hR⟩ (by simp) fun⟨i,all,bad⟩ ⟨i1,i2,i3,i4⟩=>?_
 unfold zgK
 simp only at i1 i2 i3 i4
 simp
 refine gd.mk (fun h=>?_) (fun h=>?_)
 ·have hi:i<p.mods.length:=by simpa using h
  obtain⟨m,hm⟩:∃m,p.mods[i]=m:=⟨_,rfl⟩
  have hsm:=hp'.2.2 m (by rw[<-hm];exact List.getElem_mem hi)
  rw[List.drop_eq_getElem_cons hi,hm,zbA]at i4
  have hw:=wrap_i64 (n:=(i:Int)+1) (by omega) (by omega)
  simp[hi,hm]
  refine owK.mk [.t 7] ?_
  simp
  refine ztR hp p hp' i m hsm all bad (by omega) _ rfl (ms:=[0,1,2,3]) (by simp) fun q1 q2 T t8 t7 t6 t5 t4 t1=>?_
  generalize ze6 p.names p.mods i m.imps [] bad=a at*
  simp
  refine ztS hp p i m hsm all a.1 q1 a.2 (by omega) _ rfl (ms:=[0,1,2,3]) (by simp[t8,t7,t6,t5,t4,t1]) fun q3 T t7 t6 t5 t4 t1=>?_
  generalize zeA i m.decs 0 a.1 a.2=b at*
  simp
  refine fzK.mk [3] ?_
  simp[zak,t7,t6,t5,t4,t1,zaG]
  refine⟨by omega,?_⟩
  refine Abs.Next.mk (i+1,all++[b.1],b.2) [4,1] ⟨by simp only;omega,by simp[i2],by simp only;omega,i4⟩ (by simp only;omega) ?_
  simp[zak,t7,t6,t5,t4,t1,zaG,hw,scpE]
  try trace_state
 ·have hi:i=p.mods.length:=by simp at h;omega
  subst hi
  rw[List.drop_length,zbA]at i4
  subst i4
  simp[zaG]
  try trace_state
end Go.Gr
namespace Go.Gr
open Go.Abs Go.Proofs
def zcf(l:List Bool):List (List D):=l.map fun b=>[.bool b]
@[simp] theorem zzu(l:List Bool):(zcf l).length=l.length:=by simp[zcf]
@[simp] theorem zAM(l:List Bool)(k:Nat):(zcf l)[k]?=(l[k]?).map fun b=>[.bool b]:=by simp[zcf]
@[simp] theorem zAW(l:List Bool)(j:Nat)(h:j<(zcf l).length):(zcf l)[j]=[.bool (l[j]'(by simpa using h))]:=by simp[zcf]
theorem zuD(l:List Bool)(k:Nat)(b:Bool):(zcf l).set k [.bool b]=zcf (l.set k b):=by simp[zcf,List.map_set]
abbrev zh4(l:List Bool):Blk:=.arr 1 ((zcf l).map (·.map .d))
theorem znY(l:List Bool)(k:Nat)(b:Bool):((zcf l).map fun x=>x.map AC.d).set k [.d (.bool b)]=(zcf (l.set k b)).map fun x=>x.map AC.d:=by rw[<-zuD,List.map_set];try rfl
theorem zjc(ns:List ByteArray):∀(l:List Imp) (seen:List Bool),(ze7 ns l seen).length=seen.length
 |[],seen=>rfl
 |x::l,seen=>by rw[ze7,zjc ns l];split<;>simp
theorem znZ(ns:List ByteArray):∀(l:List Mdl) (i:Nat) (seen:List Bool),(zfR ns l i seen).length=seen.length
 |[],i,seen=>rfl
 |m::l,i,seen=>by rw[zfR,znZ ns l];split;exact zjc ns _ _;rfl
theorem zwz{l:List Bool}{i z:Nat}(h:l.getD i false=true):(l.set z true).getD i false=true:=by
 rw[List.getD_eq_getElem?_getD]at h⊢
 rw[List.getElem?_set]
 split
 ·split
  ·rfl
  ·rename_i h1 h2
   subst h1
   rw[List.getElem?_eq_none (by omega)]at h;exact h
 ·exact h
abbrev rchT(p:Lnk)(to n nn i:Nat):List (Nat × AV):=[(9,.c (.d (.int .i64 i))),(8,.c (.d (.int .i64 nn))),(7,.c (.msl 1 0 0 n)),(3,.c (.d (.rp p.enc 0))),(2,.c (.d (.int .i64 to)))]
set_option maxRecDepth 20000 in
set_option maxHeartbeats 2000000 in
theorem zuE{c:Ctx}(hp:c.pure)(p:Lnk)(hp':zeH p)(to nn i:Nat)(hi:i<p.mods.length)(m:Mdl)(hm:SmallM m)(s0:List Bool)(hs0:s0.length=p.mods.length)(F0:List Bool)(hF:(if s0.getD i false=true then ze7 p.names m.imps s0 else s0)=F0){Q:Exit->St->Prop}{S:St}{g}{ms:List Nat}
  (h0:Match ms S ((11,.c (.d (.int .i64 0)))::(10,.c (.d (.sl false 4 (m.imps.map Imp.enc))))::rchT p to p.mods.length nn i) [zh4 s0])
  (hQ:∀T,Abs.look T 9=.c (.d (.int .i64 i))->Abs.look T 8=.c (.d (.int .i64 nn))->Abs.look T 7=.c (.msl 1 0 0 p.mods.length)->Abs.look T 3=.c (.d (.rp p.enc 0))->Abs.look T 2=.c (.d (.int .i64 to))->Q (.exit 4) ⟨T,hpOf [zh4 F0],1⟩):lw_ Pg c lp_g07_reached_4 Q g S:=by
 have hmi:=hm.imps
 have h16:=hp'.1
 have hnn:=hp'.2.1
 refine W.loop zab hp (fun y:Nat × List Bool=>y.1<=m.imps.length/\y.2.length=p.mods.length/\(if y.2.getD i false=true then ze7 p.names (m.imps.drop y.1) y.2 else y.2)=F0) (fun y=>(11,.c (.d (.int .i64 y.1)))::(10,.c (.d (.sl false 4 (m.imps.map Imp.enc))))::rchT p to p.mods.length nn i) (fun y=>[zh4 y.2]) (fun y=>m.imps.length-y.1) (0,s0) ms ⟨by simp,hs0,by simpa using hF⟩ h0 fun⟨k,s⟩ ⟨i1,i2,i3⟩=>?_
 unfold lp_g07_reached_4
 simp only at i1 i2 i3
 have his:i<s.length:=by omega
 have hgi:s.getD i false=s[i]:=by rw[List.getD_eq_getElem?_getD,List.getElem?_eq_getElem his];try rfl
 simp
 refine gd.mk (fun h=>?_) (fun h=>?_)
 ·have hk:k<m.imps.length:=by simpa using h
  obtain⟨x,hx⟩:∃x,m.imps[k]=x:=⟨_,rfl⟩
  have hw:=wrap_i64 (n:=(k:Int)+1) (by omega) (by omega)
  by_cases b:s.getD i false=true
  ·rw[if_pos b,List.drop_eq_getElem_cons hk,hx,ze7]at i3
   have b':s[i]=true:=by rw[<-hgi];exact b
   have hml:=zkH p.names x.from_
   have hmk:=zfl p.names x.from_
   generalize modZ p.names x.from_=z at*
   simp[his,hi,b',hk,hx]
   refine zac.mk hmk ?_
   by_cases z0:0<=z
   ·rw[if_pos z0]at i3
    obtain⟨zn,rfl⟩:∃zn:Nat,z=zn:=⟨z.toNat,by omega⟩
    have hzn:zn<p.mods.length:=by omega
    have hzs:zn<s.length:=by omega
    simp only[Int.toNat_natCast]at i3
    simp[hzn,hzs,znY]
    refine⟨by decide,?_⟩
    refine Abs.Next.mk (k+1,s.set zn true) [0] ⟨by simp only;omega,by simpa using i2,by simp only;rw[if_pos (zwz b)];exact i3⟩ (by simp only;omega) ?_
    simp[hw]
   ·rw[if_neg z0]at i3
    simp[z0]
    refine⟨by decide,?_⟩
    refine Abs.Next.mk (k+1,s) [0] ⟨by simp only;omega,i2,by simp only;rw[if_pos b];exact i3⟩ (by simp only;omega) ?_
    simp[hw]
  ·rw[if_neg b]at i3
   subst i3
   have b':s[i]=false:=by rw[hgi]at b;simpa using b
   simp[his,hi,b']
   exact hQ _ (by simp) (by simp) (by simp) (by simp) (by simp)
 ·have hk:k=m.imps.length:=by simp at h;omega
  subst hk
  rw[List.drop_length,ze7,ite_self]at i3
  subst i3
  simp
  exact hQ _ (by simp) (by simp) (by simp) (by simp) (by simp)
set_option maxRecDepth 20000 in
set_option maxHeartbeats 2000000 in
theorem zuF{c:Ctx}(hp:c.pure)(p:Lnk)(hp':zeH p)(to nn:Nat)(s0:List Bool)(hs0:s0.length=p.mods.length)(F0:List Bool)(hF:zfR p.names p.mods 0 s0=F0){Q:Exit->St->Prop}{S:St}{g}{ms:List Nat}
  (h0:Match ms S (rchT p to p.mods.length nn 0) [zh4 s0])
  (hQ:∀T,Abs.look T 8=.c (.d (.int .i64 nn))->Abs.look T 7=.c (.msl 1 0 0 p.mods.length)->Abs.look T 3=.c (.d (.rp p.enc 0))->Abs.look T 2=.c (.d (.int .i64 to))->Q (.exit 2) ⟨T,hpOf [zh4 F0],1⟩):lw_ Pg c zd4 Q g S:=by
 have h16:=hp'.1
 refine W.loop zab hp (fun y:Nat × List Bool=>y.1<=p.mods.length/\y.2.length=p.mods.length/\zfR p.names (p.mods.drop y.1) y.1 y.2=F0) (fun y=>rchT p to p.mods.length nn y.1) (fun y=>[zh4 y.2]) (fun y=>p.mods.length-y.1) (0,s0) ms ⟨by simp,hs0,by simpa using hF⟩ h0 fun⟨i,s⟩ ⟨i1,i2,i3⟩=>?_
 unfold zd4
 simp only at i1 i2 i3
 simp
 refine gd.mk (fun h=>?_) (fun h=>?_)
 ·have hi:i<p.mods.length:=by simpa using h
  obtain⟨m,hm⟩:∃m,p.mods[i]=m:=⟨_,rfl⟩
  have hsm:=hp'.2.2 m (by rw[<-hm];exact List.getElem_mem hi)
  rw[List.drop_eq_getElem_cons hi,hm,zfR]at i3
  have hw:=wrap_i64 (n:=(i:Int)+1) (by omega) (by omega)
  have hle:(if s.getD i false=true then ze7 p.names m.imps s else s).length=p.mods.length:=by
   split
   ·rw[zjc,i2]
   ·exact i2
  simp[hi,hm]
  refine zuE hp p hp' to nn i hi m hsm s i2 _ rfl (ms:=[0]) (by simp) fun T t9 t8 t7 t3 t2=>?_
  generalize (if s.getD i false=true then ze7 p.names m.imps s else s)=s2 at*
  simp[t9]
  refine Abs.Next.mk (i+1,s2) [0] ⟨by simp only;omega,hle,i3⟩ (by simp only;omega) ?_
  simp[t9,t8,t7,t3,t2,hw]
 ·have hi:i=p.mods.length:=by simp at h;omega
  subst hi
  rw[List.drop_length,zfR]at i3
  subst i3
  exact hQ _ (by simp) (by simp) (by simp) (by simp)
set_option maxRecDepth 20000 in
set_option maxHeartbeats 2000000 in
theorem zs7(p:Lnk)(hp':zeH p)(f t:Nat)(hf:f<p.mods.length)(ht:t<p.mods.length):PCall Pg 47 [.agg p.enc,.one (.int .i64 f),.one (.int .i64 t)] (.one (.bool (zeV p.names p.mods f t))):=by
 refine zo9 (by simp) fun o c hN hp=>?_
 obtain⟨R,hR⟩:∃R,zeV p.names p.mods f t=R:=⟨_,rfl⟩
 rw[hR]
 unfold zeV at hR
 have h16:=hp'.1
 have hrep:∀n:Nat,(List.replicate n [D.bool false]).map (fun x=>x.map AC.d)=(zcf (List.replicate n false)).map (fun x=>x.map AC.d):=fun n=>by simp[zcf]
 obtain⟨s0,hs⟩:∃s0,(List.replicate p.mods.length false).set f true=s0:=⟨_,rfl⟩
 have hs0:s0.length=p.mods.length:=by rw[<-hs];simp
 rw[hs]at hR
 unfold zhm
 simp[hf]
 refine⟨by omega,?_⟩
 have e0:(List.replicate p.mods.length [AC.d (D.bool false)]).set f [AC.d (D.bool true)]=(zcf s0).map fun x=>x.map AC.d:=by
  rw[<-hs,<-znY]
  simp[zcf]
 rw[e0]
 refine W.loop zab hp (fun y:Nat × List Bool=>y.1<=p.mods.length/\y.2.length=p.mods.length/\(zm8 p.names p.mods (p.mods.length-y.1) y.2).getD t false=R) (fun y=>[(8,.c (.d (.int .i64 y.1))),(7,.c (.msl 1 0 0 p.mods.length)),(3,.c (.d (.rp p.enc 0))),(2,.c (.d (.int .i64 t)))]) (fun y=>[zh4 y.2]) (fun y=>p.mods.length-y.1) (0,s0) [0] ⟨by simp,hs0,hR⟩ (by simp) fun⟨nn,s⟩ ⟨i1,i2,i3⟩=>?_
 unfold zgc
 simp only at i1 i2 i3
 simp
 refine gd.mk (fun h=>?_) (fun h=>?_)
 ·have hn:nn<p.mods.length:=by simpa using h
  rw[show p.mods.length-nn=(p.mods.length-(nn+1))+1 by omega,zm8]at i3
  have hw:=wrap_i64 (n:=(nn:Int)+1) (by omega) (by omega)
  refine zuF hp p hp' t nn s i2 _ rfl (ms:=[0]) (by simp) fun T t8 t7 t3 t2=>?_
  have hl:=znZ p.names p.mods 0 s
  generalize zfR p.names p.mods 0 s=s2 at*
  simp[t8]
  refine Abs.Next.mk (nn+1,s2) [0] ⟨by simp only;omega,by simp only;omega,i3⟩ (by simp only;omega) ?_
  simp[t8,t7,t3,t2,hw]
 ·have hn:nn=p.mods.length:=by simp at h;omega
  subst hn
  rw[Nat.sub_self,zm8,List.getD_eq_getElem?_getD,List.getElem?_eq_getElem (by omega)]at i3
  have hts:t<s.length:=by omega
  simp at i3
  simp[ht,hts,i3]
theorem zl1(ns:List ByteArray)(ms:List Mdl)(i:Nat):∀(l:List Imp) (bad:List Dia),(zdV ns ms i l bad).length<=bad.length+l.length
 |[],bad=>by simp[zdV]
 |x::l,bad=>by
  rw[zdV]
  have:=zl1 ns ms i l (if 0<=modZ ns x.from_/\zeV ns ms (modZ ns x.from_).toNat i=true then bad++[⟨i,x.line,x.col,13⟩]else bad)
  refine Nat.le_trans this ?_
  split<;>simp<;>omega
abbrev thiT(p:Lnk)(i nb:Nat):List (Nat × AV):=[(4,.c (.d (.int .i64 i))),(3,.c (.msl 4 0 0 nb)),(1,.c (.d (.rp p.enc 0)))]
set_option maxRecDepth 20000 in
set_option maxHeartbeats 2000000 in
theorem zuG{c:Ctx}(hp:c.pure)(p:Lnk)(hp':zeH p)(i:Nat)(hi:i<p.mods.length)(m:Mdl)(hm:SmallM m)(b0:List Dia)(hb0:b0.length<=10000000)(F0:List Dia)(hF:zdV p.names p.mods i m.imps b0=F0){Q:Exit->St->Prop}{S:St}{g}{ms:List Nat}
  (h0:Match ms S ((6,.c (.d (.int .i64 0)))::(5,.c (.d (.sl false 4 (m.imps.map Imp.enc))))::thiT p i b0.length) [diaA b0])
  (hQ:∀T,Abs.look T 4=.c (.d (.int .i64 i))->Abs.look T 3=.c (.msl 4 0 0 F0.length)->Abs.look T 1=.c (.d (.rp p.enc 0))->Q (.exit 2) ⟨T,hpOf [diaA F0],1⟩):lw_ Pg c lp_g07_third_2 Q g S:=by
 have hmi:=hm.imps
 have h16:=hp'.1
 have hnn:=hp'.2.1
 refine W.loop zab hp (fun y:Nat × List Dia=>y.1<=m.imps.length/\y.2.length<=b0.length+y.1/\zdV p.names p.mods i (m.imps.drop y.1) y.2=F0) (fun y=>(6,.c (.d (.int .i64 y.1)))::(5,.c (.d (.sl false 4 (m.imps.map Imp.enc))))::thiT p i y.2.length) (fun y=>[diaA y.2]) (fun y=>m.imps.length-y.1) (0,b0) ms ⟨by simp,by simp,by simpa using hF⟩ h0 fun⟨k,bad⟩ ⟨i1,i2,i3⟩=>?_
 unfold lp_g07_third_2
 simp only at i1 i2 i3
 simp
 refine gd.mk (fun h=>?_) (fun h=>?_)
 ·have hk:k<m.imps.length:=by simpa using h
  obtain⟨x,hx⟩:∃x,m.imps[k]=x:=⟨_,rfl⟩
  have hw:=wrap_i64 (n:=(k:Int)+1) (by omega) (by omega)
  rw[List.drop_eq_getElem_cons hk,hx,zdV]at i3
  have hml:=zkH p.names x.from_
  have hmk:=zfl p.names x.from_
  generalize modZ p.names x.from_=z at*
  simp[hk,hx]
  refine zac.mk hmk ?_
  by_cases z0:0<=z
  ·obtain⟨zn,rfl⟩:∃zn:Nat,z=zn:=⟨z.toNat,by omega⟩
   simp only[Int.toNat_natCast]at i3
   have hro:=zs7 p hp' zn i (by omega) hi
   obtain⟨r,hr⟩:∃r,zeV p.names p.mods zn i=r:=⟨_,rfl⟩
   simp only[hr]at i3 hro
   simp
   refine⟨by decide,?_⟩
   refine zac.mk hro ?_
   cases r with
   |true=>
    rw[if_pos ⟨z0,rfl⟩]at i3
    simp[hk,hx]
    refine⟨by omega,by decide,?_⟩
    refine Abs.Next.mk (k+1,bad++[⟨i,x.line,x.col,13⟩]) [1] ⟨by simp only;omega,by simp;omega,i3⟩ (by simp only;omega) ?_
    simp[hw,Dia.enc]
    exact zaG _ _
   |false=>
    rw[if_neg (fun q=>by cases q.2)]at i3
    simp
    refine Abs.Next.mk (k+1,bad) [0] ⟨by simp only;omega,by simp only;omega,i3⟩ (by simp only;omega) ?_
    simp[hw]
  ·rw[if_neg (fun q=>z0 q.1)]at i3
   simp[z0]
   refine⟨by decide,?_⟩
   refine Abs.Next.mk (k+1,bad) [0] ⟨by simp only;omega,by simp only;omega,i3⟩ (by simp only;omega) ?_
   simp[hw]
 ·have hk:k=m.imps.length:=by simp at h;omega
  subst hk
  rw[List.drop_length,zdV]at i3
  subst i3
  exact hQ _ (by simp) (by simp) (by simp)
set_option maxRecDepth 20000 in
set_option maxHeartbeats 2000000 in
theorem zwA(p:Lnk)(hp':zeH p):PCall Pg 25 [.agg p.enc] (.one (.sl false 4 ((zdW p.names p.mods p.mods 0 []).map Dia.enc))):=by
 refine zrA (by simp) fun o c hN hp=>?_
 obtain⟨R,hR⟩:∃R,zdW p.names p.mods p.mods 0 []=R:=⟨_,rfl⟩
 rw[hR]
 have h16:=hp'.1
 unfold zjj
 simp
 refine owK.mk [.t 3] ?_
 simp
 refine W.loop zab hp (fun y:Nat × List Dia=>y.1<=p.mods.length/\y.2.length<=y.1*10001/\zdW p.names p.mods (p.mods.drop y.1) y.1 y.2=R) (fun y=>thiT p y.1 y.2.length) (fun y=>[diaA y.2]) (fun y=>p.mods.length-y.1) (0,[]) [0] ⟨by simp,by simp,by simpa using hR⟩ (by simp) fun⟨i,bad⟩ ⟨i1,i2,i3⟩=>?_
 unfold zhn
 simp only at i1 i2 i3
 simp
 refine gd.mk (fun h=>?_) (fun h=>?_)
 ·have hi:i<p.mods.length:=by simpa using h
  obtain⟨m,hm⟩:∃m,p.mods[i]=m:=⟨_,rfl⟩
  have hsm:=hp'.2.2 m (by rw[<-hm];exact List.getElem_mem hi)
  have hmi:=hsm.imps
  rw[List.drop_eq_getElem_cons hi,hm,zdW]at i3
  have hw:=wrap_i64 (n:=(i:Int)+1) (by omega) (by omega)
  have htl:=zl1 p.names p.mods i m.imps bad
  simp[hi,hm]
  refine zuG hp p hp' i hi m hsm bad (by omega) _ rfl (ms:=[0]) (by simp) fun T t4 t3 t1=>?_
  generalize zdV p.names p.mods i m.imps bad=b2 at*
  simp[t4]
  refine Abs.Next.mk (i+1,b2) [0] ⟨by simp only;omega,by simp only;omega,i3⟩ (by simp only;omega) ?_
  simp[t4,t3,t1,hw]
 ·have hi:i=p.mods.length:=by simp at h;omega
  subst hi
  rw[List.drop_length,zdW]at i3
  subst i3
  simp[zaG]
theorem zl2(L:List Tok):∀(n:Nat) (l:List ByteArray) (p:PS),(zbR L n l p).1.length<=l.length+n
 |0,l,p=>by simp[zbR]
 | n+1,l,p=>by
  rw[zbR]
  split
  ·have:=zl2 L n (l++[(zav L p).1]) (zad L (bs [44]) (zav L p).2).2
   simp at this⊢;omega
  ·simp
theorem zn0(L:List Tok)(hL:L.length<=10000):∀(n:Nat) (l:List Imp) (p:PS),(∀x,x∈l->x.names.length<=10001)->(zdG L n l p).1.length<=l.length+n/\∀x,x∈(zdG L n l p).1->x.names.length<=10001
 |0,l,p,h=>by simp[zdG];exact h
 | n+1,l,p,h=>by
  rw[zdG]
  split
  ·simp only
   have hn:=zl2 L (L.length+1) [] (zay L (bs [58]) (zav L (zad L zb4 p).2).2)
   have:=zn0 L hL n (l++[⟨(zav L (zad L zb4 p).2).1,(zbR L (L.length+1) [] (zay L (bs [58]) (zav L (zad L zb4 p).2).2)).1,(curT L p).line,(curT L p).col⟩]) (zay L (bs [59]) (zbR L (L.length+1) [] (zay L (bs [58]) (zav L (zad L zb4 p).2).2)).2) (fun x hx=>by
    rcases List.mem_append.1 hx with hx|hx
    ·exact h x hx
    ·simp at hx;subst hx;simp at hn⊢;omega)
   refine⟨?_,this.2⟩
   have h1:=this.1
   simp at h1⊢;omega
  ·exact⟨by simp,h⟩
theorem zn1(L:List Tok):∀(n:Nat) (l:List Dec) (p:PS),(zbO L n l p).1.length<=l.length+n
 |0,l,p=>by simp[zbO]
 | n+1,l,p=>by
  rw[zbO]
  split
  ·have:=zn1 L n (l++[(decP L p).1]) (decP L p).2
   simp at this⊢;omega
  ·simp
theorem zru(s:ByteArray):SmallM (zba s).1:=by
 have h0:SmallM noM:=⟨by simp[noM],by simp[noM],by simp[noM]⟩
 have hk:=zkm (s:=s)
 unfold zba
 simp only
 split
 ·exact h0
 split
 ·exact h0
 ·rename_i h1 h2
  obtain⟨hL,hl⟩:=hk (by simpa using h1)
  unfold zel
  simp only
  generalize (lexP s).1=L at*
  have a:=zn0 L hl (L.length+1) [] ps0 (by simp)
  have b:=zn1 L (L.length+1) [] (zdG L (L.length+1) [] ps0).2
  exact⟨by have:=a.1;simp at this;simp only;omega,a.2,by simp at b;simp only;omega⟩
theorem zjd:∀(l:List (ByteArray × ByteArray)) (i:Nat) (ns:List ByteArray) (ms:List Mdl) (bad:List Dia),ns.length=ms.length->(∀m,m∈ms->SmallM m)->
  (zbj l i ns ms bad).1.1.length=(zbj l i ns ms bad).1.2.length/\(zbj l i ns ms bad).1.2.length=ms.length+l.length/\∀m,m∈(zbj l i ns ms bad).1.2->SmallM m
 |[],i,ns,ms,bad,h1,h2=>by rw[zbj];exact⟨h1,by simp,h2⟩
 | s::l,i,ns,ms,bad,h1,h2=>by
  rw[zbj]
  have:=zjd l (i+1) (ns++[s.1]) (ms++[(zba s.2).1]) (if za1 s.1=false then bad++[⟨i,1,1,10⟩]else if 0<=modZ ns s.1 then bad++[⟨i,1,1,8⟩]else if(zba s.2).2.e≠0 then bad++[⟨i,(zba s.2).2.line,(zba s.2).2.col,(zba s.2).2.e⟩]else bad) (by simp[h1]) (fun m hm=>by
   rcases List.mem_append.1 hm with hm|hm
   ·exact h2 m hm
   ·simp at hm;subst hm;exact zru _)
  refine⟨this.1,?_,this.2.2⟩
  have h3:=this.2.1
  simp at h3⊢;omega
theorem zkN(l:List (ByteArray × ByteArray))(sc:List (List Ent)):zeH ⟨(zbQ l).1.1,(zbQ l).1.2,sc,noE⟩:=by
 unfold zbQ
 split
 ·exact⟨by simp,rfl,by simp⟩
 ·have:=zjd l 0 [] [] [] rfl (by simp)
  exact⟨by have:=this.2.1;simp at this;simp only;omega,this.1,this.2.2⟩
abbrev lnkV(r:Lnk × List Dia):DV:=.tup [.agg r.1.enc,.one (.sl false 4 (r.2.map Dia.enc))]
theorem zyF(x:List ByteArray × List Mdl)(s:List (List Ent)):put ((lnk1 x).enc.map AC.d) 2 [.d (.sl false 1 (s.map scpE))]=(⟨x.1,x.2,s,noE⟩:Lnk).enc.map .d:=rfl
theorem zwB(a:List ByteArray)(b:List Mdl)(s:List (List Ent))(n:ByteArray)(m k:Int):splice ((⟨a,b,s,noE⟩:Lnk).enc.map AC.d) 3 [.d (.str n),.d (.int .i64 m),.d (.int .i64 k)]=(⟨a,b,s,⟨n,m,k⟩⟩:Lnk).enc.map .d:=rfl
theorem zuH(a:List ByteArray)(b:List Mdl)(s:List (List Ent))(n:ByteArray)(m k:Int):put ((⟨a,b,s,noE⟩:Lnk).enc.map AC.d) 3 [.d (.str n),.d (.int .i64 m),.d (.int .i64 k)]=(⟨a,b,s,⟨n,m,k⟩⟩:Lnk).enc.map .d:=rfl
attribute [simp] zyF zwB zuH
theorem zfT:noL.enc=[.sl false 1 [],.sl false 2 [],.sl false 1 [],.str (bs []),.int .i64 0,.int .i64 0]:=rfl
set_option maxRecDepth 20000 in
set_option maxHeartbeats 4000000 in
theorem zyG(l:List (ByteArray × ByteArray)):PCall Pg 16 [.one (.sl false 2 (l.map srcE))] (lnkV (zeB l)):=by
 refine zto (by simp) fun o c hN hp=>?_
 obtain⟨R,hR⟩:∃R,zeB l=R:=⟨_,rfl⟩
 rw[hR]
 unfold zeB at hR
 simp only at hR
 have hfs:=zkN l
 have hf:=zx3 l
 generalize zbQ l=f at*
 unfold mc_g07_Link
 simp
 refine zac.mk hf ?_
 by_cases f0:0<f.2.length
 ·rw[if_pos f0]at hR
  subst hR
  simp[f0,zfT]
 rw[if_neg f0]at hR
 have hsec:PCall Pg 24 [.agg (lnk1 f.1).enc] (.tup [.one (.sl false 1 ((zbA f.1.1 f.1.2 f.1.2 0 [] []).1.map scpE)),.one (.sl false 4 ((zbA f.1.1 f.1.2 f.1.2 0 [] []).2.map Dia.enc))]):=zvu (lnk1 f.1) (hfs [])
 generalize zbA f.1.1 f.1.2 f.1.2 0 [] []=s at*
 simp[f0]
 refine zac.mk hsec ?_
 by_cases s0:0<s.2.length
 ·rw[if_pos s0]at hR
  subst hR
  simp[s0,zfT]
 rw[if_neg s0]at hR
 have hthi:PCall Pg 25 [.agg (⟨f.1.1,f.1.2,s.1,noE⟩:Lnk).enc] (.one (.sl false 4 ((zdW f.1.1 f.1.2 f.1.2 0 []).map Dia.enc))):=zwA ⟨f.1.1,f.1.2,s.1,noE⟩ (hfs s.1)
 generalize zdW f.1.1 f.1.2 f.1.2 0 []=t at*
 simp[s0]
 refine zac.mk hthi ?_
 by_cases t0:0<t.length
 ·rw[if_pos t0]at hR
  subst hR
  simp[t0,zfT]
 rw[if_neg t0]at hR
 have hmk:=zfl f.1.1 zcR
 have hml:=zkH f.1.1 zcR
 have hsm:=hfs s.1
 have hnn:f.1.1.length=f.1.2.length:=hsm.2.1
 generalize modZ f.1.1 zcR=z at*
 simp[t0]
 refine zac.mk hmk ?_
 by_cases z0:z<0
 ·rw[if_pos z0]at hR
  subst hR
  simp[z0,zfT,Dia.enc]
 rw[if_neg z0]at hR
 obtain⟨g1,g2⟩:=getD_in f.1.2 noM (z:=z) (n:=f.1.1.length) (by rw[hnn]) (by omega) (by omega)
 generalize f.1.2.getD z.toNat noM=M at*
 have hM:=hsm.2.2 M g2
 have hMd:=hM.decs
 obtain⟨zn,rfl⟩:∃zn:Nat,z=zn:=⟨z.toNat,by omega⟩
 simp only[Int.toNat_natCast]at g1
 have hdk:=zsU M zcR (by omega)
 have hdl:=zrg M zcR
 generalize zcb M zcR=k at*
 simp[z0,g1]
 refine zac.mk hdk ?_
 by_cases k0:k<0
 ·rw[if_pos k0]at hR
  subst hR
  simp[k0,zfT,Dia.enc]
 rw[if_neg k0]at hR
 obtain⟨g3,g4⟩:=getD_in M.decs zg2 (z:=k) (n:=M.decs.length) rfl (by omega) (by omega)
 generalize M.decs.getD k.toNat zg2=d at*
 obtain⟨kn,rfl⟩:∃kn:Nat,k=kn:=⟨k.toNat,by omega⟩
 simp only[Int.toNat_natCast]at g3
 by_cases v0:0<d.vars.length
 ·rw[if_pos v0]at hR
  subst hR
  simp[k0,g1,g3,v0,zfT,Dia.enc]
  decide
 ·rw[if_neg v0]at hR
  subst hR
  simp[k0,g1,g3,v0]
end Go.Gr
namespace Go.Gr
open Go.Abs Go.Proofs
def zdK:MC:=(fun x (_:x=gC tt [(7,1)] [(7,[0,0,3,7,0,16,63])] [] (gLb 0 (gB Tryz.f115)))=>x) _ (by dsimp[Tryz.f115])
def zdL:MC:=(fun x (_:x=gC tt [(9,115),(7,1)] [] [] (gLb 2 (gB Tryz.f115)))=>x) _ (by dsimp[Tryz.f115])
def zew:MC:=(fun x (_:x=gC tt [(0,3),(6,2),(7,1)] [] [(0,zdK),(2,zdL)] (gB Tryz.f115))=>x) _ (by dsimp[Tryz.f115])
theorem zgZ:WM Pg 115 73 zew [.cell 6 true 4,.tmp 7]:=wM zab Tryz.func115 (by kernel_rfl)
def mc_g08_Resolve:MC:=(fun x (_:x=gC tt [(9,115)] [] [] (gB Tryz.f75))=>x) _ (by dsimp[Tryz.f75])
theorem zhU:WM Pg 75 39 mc_g08_Resolve [.cell 6 true 4,.tmp 7]:=wM zab Tryz.func75 (by kernel_rfl)
def lp_g08_Bind_0:MC:=(fun x (_:x=gC tt [(9,75)] [(11,[0,0,3,7,15,0,0,0,192,511,1023,2047,2047,0,12287,32767]),(12,[0,0,3,7,0,31,63])] [] (gLb 0 (gB Tryz.f120)))=>x) _ (by dsimp[Tryz.f120])
def zlb:MC:=(fun x (_:x=gC tt [(6,0)] [] [(0,lp_g08_Bind_0)] (gB Tryz.f120))=>x) _ (by dsimp[Tryz.f120])
theorem zub:WT Pg 120 69 zlb [.tmp 4]:=wT zab Tryz.func120 (by kernel_rfl)
def lp_g08_same_0:MC:=(fun x (_:x=gC tt [] [(6,[0,1,0,7,15,0,32,0,224,480,1023,2047])] [] (gLb 0 (gB Tryz.f49)))=>x) _ (by dsimp[Tryz.f49])
def zlc:MC:=(fun x (_:x=gC tt [] [] [(0,lp_g08_same_0)] (gB Tryz.f49))=>x) _ (by dsimp[Tryz.f49])
theorem zuc:WT Pg 49 48 zlc [.tmp 4]:=wT zab Tryz.func49 (by kernel_rfl)
def lp_g08_Table_Add_0:MC:=(fun x (_:x=gC tt [] [] [] (gLb 0 (gB Tryz.f28)))=>x) _ (by dsimp[Tryz.f28])
def zfk:MC:=(fun x (_:x=gC tt [] [(10,[0,1,3,7,0,31,63,0,255,511])] [] (gLb 2 (gB Tryz.f28)))=>x) _ (by dsimp[Tryz.f28])
def zgz:MC:=(fun x (_:x=gC tt [] [(13,[0,1,3,7,15,0,32,96,224,511]),(15,[0,0,2,6,14,0,32,126,255,511,1023])] [(0,lp_g08_Table_Add_0),(2,zfk)] (gB Tryz.f28))=>x) _ (by dsimp[Tryz.f28])
theorem zlN:WM Pg 28 71 zgz [.tmp 4,.tmp 5]:=wM zab Tryz.func28 (by kernel_rfl)
def mc_g09_base:MC:=(fun x (_:x=gC tt [] [] [] (gB Tryz.f54))=>x) _ (by dsimp[Tryz.f54])
theorem zud:WT Pg 54 5 mc_g09_base [.cell 2 true 4]:=wT zab Tryz.func54 (by kernel_rfl)
def lp_g09_Vars_0:MC:=(fun x (_:x=gC tt [] [] [] (gLb 0 (gB Tryz.f50)))=>x) _ (by dsimp[Tryz.f50])
def zld:MC:=(fun x (_:x=gC tt [(6,0)] [] [(0,lp_g09_Vars_0)] (gB Tryz.f50))=>x) _ (by dsimp[Tryz.f50])
theorem zue:WT Pg 50 22 zld [.tmp 2]:=wT zab Tryz.func50 (by kernel_rfl)
def lp_g09_find_0:MC:=(fun x (_:x=gC tt [] [] [] (gLb 0 (gB Tryz.f118)))=>x) _ (by dsimp[Tryz.f118])
def zle:MC:=(fun x (_:x=gC tt [] [] [(0,lp_g09_find_0)] (gB Tryz.f118))=>x) _ (by dsimp[Tryz.f118])
theorem zuf:WT Pg 118 21 zle [.tmp 4]:=wT zab Tryz.func118 (by kernel_rfl)
def mc_g09_with:MC:=(fun x (_:x=gC tt [] [(1,[0,1,0,0,12,28,63,127])] [] (gB Tryz.f121))=>x) _ (by dsimp[Tryz.f121])
theorem zug:WT Pg 121 14 mc_g09_with [.tmp 6]:=wT zab Tryz.func121 (by kernel_rfl)
def mc_gc_fail:MC:=(fun x (_:x=gC tt [] [] [] (gB Tryz.f76))=>x) _ (by dsimp[Tryz.f76])
theorem zuh:WM Pg 76 25 mc_gc_fail []:=wM zab Tryz.func76 (by kernel_rfl)
def mc_gc_at:MC:=(fun x (_:x=gC tt [(9,76)] [] [] (gB Tryz.f55))=>x) _ (by dsimp[Tryz.f55])
theorem zxY:WM Pg 55 13 mc_gc_at []:=wM zab Tryz.func55 (by kernel_rfl)
def mc_gc_resolve:MC:=(fun x (_:x=gC tt [(9,75),(9,76)] [(1,[0,0,2,6,14,0,32,96,224,511,1023,2047,2047,0,12287,32767])] [] (gB Tryz.f51))=>x) _ (by dsimp[Tryz.f51])
theorem zpg:WM Pg 51 31 mc_gc_resolve [.cell 8 true 4]:=wM zab Tryz.func51 (by kernel_rfl)
def mc_gc_made:MC:=(fun x (_:x=gC tt [(9,55)] [] [] (gB Tryz.f52))=>x) _ (by dsimp[Tryz.f52])
theorem zui:WM Pg 52 20 mc_gc_made [.cell 6 true 4]:=wM zab Tryz.func52 (by kernel_rfl)
def mc_gc_cast:MC:=(fun x (_:x=gC tt [] [(3,[0,0,2,6,14,30,0,64,192,448,0,1024,0,4096,16320,32704,65534,131071,262143,524287,1048575]),(4,[0,1,3,7,15,31,63,0,0,384,0,1024,4095,8191])] [] (gB Tryz.f90))=>x) _ (by dsimp[Tryz.f90])
theorem zuj:WM Pg 90 50 mc_gc_cast [.cell 10 true 8]:=wM zab Tryz.func90 (by kernel_rfl)
def mc_gc_coerce:MC:=(fun x (_:x=gC tt [(9,90),(9,55)] [] [] (gB Tryz.f57))=>x) _ (by dsimp[Tryz.f57])
theorem zq5:WM Pg 57 34 mc_gc_coerce [.cell 10 true 8]:=wM zab Tryz.func57 (by kernel_rfl)
def mc_gc_signature:MC:=(fun x (_:x=gC tt [(9,75)] [(1,[0,1,3,7,15,0,32,127,255,511,0,1024,4095,8191,0,32767])] [] (gB Tryz.f148))=>x) _ (by dsimp[Tryz.f148])
theorem zm3:WM Pg 148 71 mc_gc_signature [.cell 6 true 4,.tmp 7]:=wM zab Tryz.func148 (by kernel_rfl)
def mc_gc_global:MC:=(fun x (_:x=gC tt [(9,148),(9,55),(9,28)] [(5,[0,1,3,7,0,16,0,64,0,496,1023,2047,4095,4095,8191,32767]),(8,[0,1,0,3,15])] [] (gB Tryz.f119))=>x) _ (by dsimp[Tryz.f119])
theorem zq6:WM Pg 119 51 mc_gc_global [.cell 8 true 8,.cell 9 true 4]:=wM zab Tryz.func119 (by kernel_rfl)
def lp_gc_named_0:MC:=(fun x (_:x=gC tt [(9,51)] [(22,[0,0,2,0,14,30,0,64,0,256,1023,0,4095])] [] (gLb 0 (gB Tryz.f78)))=>x) _ (by dsimp[Tryz.f78])
def zlf:MC:=(fun x (_:x=gC tt [(9,55),(9,119),(4,146),(6,0)] [(2,[0,1,3,7,15,0,32,96,224,511,1023,0,2048,8191,16383,32767,32767,0,196607,524287]),(5,[0,1,0,0,12,28,60,3,255]),(8,[0,0,3,7]),(11,[0,0,3,7]),(12,[0,1,3,7,15,0,32,127,255,511,0,1024,4095,8191,0,32767]),(15,[0,0,3,7]),(25,[0,0,3,7]),(29,[0,0,3,7])] [(0,lp_gc_named_0)] (gB Tryz.f78))=>x) _ (by dsimp[Tryz.f78])
theorem zr5:WM Pg 78 162 zlf [.cell 6 true 8,.cell 7 true 4]:=wM zab Tryz.func78 (by kernel_rfl)
def mc_gc_Infer:MC:=(fun x (_:x=gC tt [(9,78),(9,79),(9,80),(9,81),(9,82),(9,83),(9,84),(9,85),(9,86),(9,87),(9,88)] [(5,[0,1,3,0,15,31]),(7,[0,1,3,0,15,31]),(9,[0,1,3,0,15,31])] [] (gB Tryz.f56))=>x) _ (by dsimp[Tryz.f56])
theorem zaX:WM Pg 56 130 mc_gc_Infer [.cell 6 true 8,.cell 7 true 4]:=wM zab Tryz.func56 (by kernel_rfl)
def mc_gc_let:MC:=(fun x (_:x=gC tt [(9,56),(9,51),(9,57)] [(3,[0,0,2,6,14,0,32,0,128,511,0,2047]),(4,[0,0,0,0,0,16,48,112,255,511]),(6,[0,0,2,6,14,0,0,64,0,480,1023,2047,4095,4095,0,0,57343,131071]),(7,[0,0,3,7,0,15,63])] [] (gB Tryz.f79))=>x) _ (by dsimp[Tryz.f79])
theorem zv5:WM Pg 79 73 mc_gc_let [.cell 6 true 8,.cell 7 true 4]:=wM zab Tryz.func79 (by kernel_rfl)
def mc_gc_fn:MC:=(fun x (_:x=gC tt [(9,51),(9,56),(9,57),(9,52)] [(1,[0,0,2,6,14,0,32,0,128,511,0,2047]),(4,[0,0,2,6,14,0,32,0,128,511,1023]),(5,[0,0,2,6,14,0,0,64,0,480,1023,2047,4095,4095,0,0,57343,131071]),(7,[0,0,0,0,0,16,48,112,255,511]),(10,[0,1,3,0,7,31])] [] (gB Tryz.f80))=>x) _ (by dsimp[Tryz.f80])
theorem zxZ:WM Pg 80 84 mc_gc_fn [.cell 6 true 8,.cell 7 true 4]:=wM zab Tryz.func80 (by kernel_rfl)
def mc_gc_call:MC:=(fun x (_:x=gC tt [(9,56),(9,90),(9,55),(9,57)] [(10,[0,0,0,0,8,24,56,0,128,384,896,2047,4095]),(11,[0,0,3,7,0,16,48,112,15,511])] [] (gB Tryz.f81))=>x) _ (by dsimp[Tryz.f81])
theorem zuk:WM Pg 81 75 mc_gc_call [.cell 6 true 8,.cell 7 true 4]:=wM zab Tryz.func81 (by kernel_rfl)
def lp_gc_record_2:MC:=(fun x (_:x=gC tt [(9,55)] [(7,[0,1,0,7,15,0,32,0,224,480,1023])] [] (gLb 2 (gB Tryz.f82)))=>x) _ (by dsimp[Tryz.f82])
def zhV:MC:=(fun x (_:x=gC tt [] [] [(2,lp_gc_record_2)] (gLb 0 (gB Tryz.f82)))=>x) _ (by dsimp[Tryz.f82])
def zhW:MC:=(fun x (_:x=gC tt [(9,56)] [] [] (gLb 4 (gB Tryz.f82)))=>x) _ (by dsimp[Tryz.f82])
def zj3:MC:=(fun x (_:x=gC tt [(9,52),(4,81),(6,4)] [(18,[0,0,1,7])] [(0,zhV),(4,zhW)] (gB Tryz.f82))=>x) _ (by dsimp[Tryz.f82])
theorem zq7:WM Pg 82 84 zj3 [.cell 6 true 8,.cell 7 true 4]:=wM zab Tryz.func82 (by kernel_rfl)
def mc_gc_sel:MC:=(fun x (_:x=gC tt [(9,56),(9,90),(9,55)] [(9,[0,1,0,4,15,0,31,127])] [] (gB Tryz.f83))=>x) _ (by dsimp[Tryz.f83])
theorem zv6:WM Pg 83 56 mc_gc_sel [.cell 6 true 8,.cell 7 true 4]:=wM zab Tryz.func83 (by kernel_rfl)
def lp_gc_field_0:MC:=(fun x (_:x=gC tt [] [(14,[0,1,0,7,15,0,32,127]),(15,[0,1,0,4,0,28,60,124,255,511,1023]),(16,[0,1,0,4,0,28,60,124,255,511,1023])] [] (gLb 0 (gB Tryz.f84)))=>x) _ (by dsimp[Tryz.f84])
def zlg:MC:=(fun x (_:x=gC tt [(9,56),(9,90),(9,55),(1,56),(1,58),(9,52),(4,98)] [(18,[0,1,0,0,12,31,0,63,255])] [(0,lp_gc_field_0)] (gB Tryz.f84))=>x) _ (by dsimp[Tryz.f84])
theorem zr6:WM Pg 84 106 zlg [.cell 6 true 8,.cell 7 true 4]:=wM zab Tryz.func84 (by kernel_rfl)
def mc_gc_branch:MC:=(fun x (_:x=gC tt [(9,56),(9,57),(4,90)] [(3,[0,0,0,0,0,31,63]),(9,[0,0,3,7,15,0,32,127,255,511,511,0,0,7167,16383]),(15,[0,0,0,0,0,16,48,112,255,511]),(16,[0,0,0,0,0,16,48,112,255,511]),(17,[0,0,0,7,15,0,31,127])] [] (gB Tryz.f85))=>x) _ (by dsimp[Tryz.f85])
theorem zq8:WM Pg 85 130 mc_gc_branch [.cell 6 true 8,.cell 7 true 4]:=wM zab Tryz.func85 (by kernel_rfl)
def mc_gc_as:MC:=(fun x (_:x=gC tt [(9,56),(9,51),(9,90)] [(3,[0,0,1,7]),(4,[0,0,2,6,14,0,32,0,128,511,0,2047]),(6,[0,0,1,7]),(9,[0,0,0,0,0,31,63]),(11,[0,0,1,7]),(13,[0,0,0,0,0,31,0,63,255]),(14,[0,1,0,0,12,0,32,127,0,255,1023])] [] (gB Tryz.f86))=>x) _ (by dsimp[Tryz.f86])
theorem zx0:WM Pg 86 85 mc_gc_as [.cell 6 true 8,.cell 7 true 4]:=wM zab Tryz.func86 (by kernel_rfl)
def mc_gc_want:MC:=(fun x (_:x=gC tt [(9,56),(9,57)] [] [] (gB Tryz.f124))=>x) _ (by dsimp[Tryz.f124])
theorem zul:WM Pg 124 24 mc_gc_want [.cell 8 true 8]:=wM zab Tryz.func124 (by kernel_rfl)
def lp_gc_op_1:MC:=(fun x (_:x=gC tt [] [(24,[0,0,3,7,0,16,63])] [] (gLb 1 (gB Tryz.f87)))=>x) _ (by dsimp[Tryz.f87])
def zq9:MC:=(fun x (_:x=gC tt [(9,124),(9,56)] [(4,[0,0,2,6,14,0,0,127,0,511]),(5,[0,0,2,6,14,0,0,127,0,511]),(6,[0,0,0,7,15,0,31,127]),(8,[0,0,2,6,14,0,0,127,0,511]),(9,[0,0,2,6,14,0,0,127,0,511]),(10,[0,0,0,7,15,0,31,127]),(14,[0,0,3,7,0,15,63]),(16,[0,0,2,6,14,0,0,127,0,511]),(17,[0,0,2,6,14,0,0,127,0,511]),(18,[0,0,3,7,0,31,63]),(26,[0,0,2,6,14,0,0,127,0,511]),(27,[0,0,2,6,14,0,0,127,0,511]),(31,[0,0,0,6,15,0,31,127])] [(1,lp_gc_op_1)] (gB Tryz.f87))=>x) _ (by dsimp[Tryz.f87])
theorem zx1:WM Pg 87 167 zq9 [.cell 6 true 8,.cell 7 true 4]:=wM zab Tryz.func87 (by kernel_rfl)
def mc_gc_one:MC:=(fun x (_:x=gC tt [(9,124),(9,56)] [(3,[0,0,2,6,14,0,0,127,0,511]),(4,[0,1,3,0,15,31]),(6,[0,0,2,6,14,0,0,127,0,511]),(7,[0,1,3,0,15,31]),(10,[0,1,0,4,15,0,63,127]),(12,[0,1,3,0,15,31])] [] (gB Tryz.f88))=>x) _ (by dsimp[Tryz.f88])
theorem zv7:WM Pg 88 76 mc_gc_one [.cell 6 true 8,.cell 7 true 4]:=wM zab Tryz.func88 (by kernel_rfl)
def lp_gc_function_0:MC:=(fun x (_:x=gC tt [] [] [] (gLb 0 (gB Tryz.f29)))=>x) _ (by dsimp[Tryz.f29])
def mc_gc_function:MC:=(fun x (_:x=gC tt [(9,51),(1,74),(9,52),(4,84),(5,87),(4,111),(9,55),(9,56),(9,57)] [(1,[0,1,3,7,15,0,32,127,255,511,0,1024,4095,8191,0,32767]),(7,[0,0,2,6,14,0,32,0,128,511,0,2047]),(8,[0,0,2,6,14,0,32,0,128,511,0,2047]),(12,[0,0,3,7]),(13,[0,1,0,4,12,28,60,124,255,511,1023,2047,1023,5119,13311,29695,62463,127999,262143,524287,1048575,2097151,4194303,8388607]),(17,[0,1,3,7,15,0,32,127,255,511,0,1024,4095,8191]),(27,[0,0,2,6,14,30,0,0,0,448,960,2046,4095,8191,16383,32767]),(29,[0,0,2,6,14,0,32,0,128,384,896,0,2048,6144,14336,0,32768,98304,229376,524256,1048544,2097150,4194303,8388607,16777215])] [(0,lp_gc_function_0)] (gB Tryz.f29))=>x) _ (by dsimp[Tryz.f29])
theorem znK:WM Pg 29 216 mc_gc_function []:=wM zab Tryz.func29 (by kernel_rfl)
def lp_g09_Check_2:MC:=(fun x (_:x=gC tt [(9,28),(7,1)] [(12,[0,0,0,4,0,16,0,126,254,1,1023])] [] (gLb 2 (gB Tryz.f17)))=>x) _ (by dsimp[Tryz.f17])
def zhX:MC:=(fun x (_:x=gC tt [] [] [(2,lp_g09_Check_2)] (gLb 0 (gB Tryz.f17)))=>x) _ (by dsimp[Tryz.f17])
def zhY:MC:=(fun x (_:x=gC tt [(9,29)] [] [] (gLb 4 (gB Tryz.f17)))=>x) _ (by dsimp[Tryz.f17])
def zj4:MC:=(fun x (_:x=gC tt [(0,13),(0,15),(6,0),(7,1)] [(20,[0,0,2,6,14,1,63])] [(0,zhX),(4,zhY)] (gB Tryz.f17))=>x) _ (by dsimp[Tryz.f17])
theorem zr7:WT Pg 17 125 zj4 [.cell 2 true 3,.tmp 3]:=wT zab Tryz.func17 (by kernel_rfl)
def lp_w11_Program_0:MC:=(fun x (_:x=gC tt [] [] [] (gLb 0 (gB Tryz.f7)))=>x) _ (by dsimp[Tryz.f7])
def zhZ:MC:=(fun x (_:x=gC tt [] [] [(0,lp_w11_Program_0)] (gB Tryz.f7))=>x) _ (by dsimp[Tryz.f7])
theorem zph:WT Pg 7 55 zhZ [.cell 2 true 3,.tmp 3]:=wT zab Tryz.func7 (by kernel_rfl)
def lp_w07_Few_0:MC:=(fun x (_:x=gC tt [] [] [] (gLb 0 (gB Tryz.f15)))=>x) _ (by dsimp[Tryz.f15])
def zm4:MC:=(fun x (_:x=gC tt [] [] [(0,lp_w07_Few_0)] (gB Tryz.f15))=>x) _ (by dsimp[Tryz.f15])
theorem zv8:WT Pg 15 40 zm4 [.tmp 2]:=wT zab Tryz.func15 (by kernel_rfl)
end Go.Gr
namespace Go.Gr
open Go.Abs Go.Proofs
abbrev strA(l:List ByteArray):Blk:=.arr 1 ((encS l).map (·.map .d))
def accR(vs:List ByteArray)(wth:List Typ)(a:List Typ)(l:List Typ):List Typ × Bool:=if(zdk vs wth l).2=true then(a++(zdk vs wth l).1,true)else([],false)
theorem zoP(vs:List ByteArray)(wth:List Typ)(a:List Typ)(t:Typ)(l:List Typ):accR vs wth a (t::l)=if(zb1 vs wth t).2=true then accR vs wth (a++[(zb1 vs wth t).1]) l else([],false):=by
 unfold accR
 rw[zdk]
 by_cases h:(zb1 vs wth t).2=true
 ·rw[if_pos h,if_pos h]
  by_cases h2:(zdk vs wth l).2=true
  ·simp[h2]
  ·simp[h2]
 ·rw[if_neg h,if_neg h];simp
theorem zqX(vs:List ByteArray)(wth:List Typ)(t:Typ):zb1 vs wth t=if t.kind=8 then(if 0<t.names.length\/0<t.kids.length then(t,false)else match zeC vs wth t.name with
   |some u=>(u,true)
   |none=>(t,false))
  else if(accR vs wth [] t.kids).2=true then(.mk t.kind t.name t.names (accR vs wth [] t.kids).1,true)else(t,false):=by
 cases t with
 | mk k n s l=>
  unfold accR
  rw[zb1]
  simp only[Typ.kind,Typ.name,Typ.names,Typ.kids,List.nil_append]
  by_cases h:(zdk vs wth l).2=true
  ·simp[h]
   rfl
  ·simp[h]
   rfl
theorem zan(k:Int)(n:ByteArray)(s:List ByteArray)(l:List Typ):Typ.enc (.mk k n s l)=[.int .i64 k,.str n,.sl false 1 (encS s),.sl false 4 (l.map Typ.enc)]:=by rw[Typ.enc_eq];try rfl
theorem zoQ(t:Typ)(b n:Nat):put (t.enc.map AC.d) 3 [.msl 4 b 0 n]=[.d (.int .i64 t.kind),.d (.str t.name),.d (.sl false 1 (encS t.names)),.msl 4 b 0 n]:=by rw[Typ.enc_eq];try rfl
theorem zvU{ts:List (Nat × Nat)}(h:ts.length=([]:List Blk).length):ts=[]:=List.length_eq_zero_iff.1 h
abbrev RepD(vs:List ByteArray)(wth:List Typ)(u:Typ):Prop:=MCall Pg 115 [.ag (u.enc.map .d),.c (.d (.sl false 1 (encS vs))),.c (.d (.sl false 4 (wth.map Typ.enc)))] [] (.tup [.ag ((zb1 vs wth u).1.enc.map .d),.c (.d (.bool (zb1 vs wth u).2))]) []
abbrev rpDT(vs:List ByteArray)(wth:List Typ):List (Nat × AV):=[(6,.c (.ptr 1 0)),(3,.c (.ptr 0 0)),(2,.c (.d (.sl false 4 (wth.map Typ.enc)))),(1,.c (.d (.sl false 1 (encS vs))))]
set_option maxRecDepth 20000 in
set_option maxHeartbeats 4000000 in
theorem zvV(vs:List ByteArray)(wth:List Typ)(hv:vs.length=wth.length)(hl:wth.length<=1000000)(u:Typ)(hk:u.kids.length<=200)(ih:∀e,e∈u.kids->RepD vs wth e):RepD vs wth u:=by
 refine zgZ ⟨by simp,by simp,by simp,by simp,by simp,by simp,by simp⟩ fun ts hts ok hb c hN hp=>?_
 have hts:=zvU hts
 subst hts
 obtain⟨R,hR⟩:∃R,zb1 vs wth u=R:=⟨_,rfl⟩
 rw[hR]
 rw[zqX]at hR
 unfold zew
 by_cases k8:u.kind=8
 ·rw[if_pos k8]at hR
  by_cases n0:0<u.names.length
  ·rw[if_pos (.inl n0)]at hR
   subst hR
   simp[k8,n0]
   refine fzK.mk [] ?_
   simp
   exact EndM.mk [] [] (by simp)
  by_cases c0:0<u.kids.length
  ·rw[if_pos (.inr c0)]at hR
   subst hR
   simp[k8,n0,c0]
   refine fzK.mk [] ?_
   simp
   exact EndM.mk [] [] (by simp)
  rw[if_neg (by omega)]at hR
  simp[k8,n0,c0]
  refine W.loop zab hp (fun j:Nat=>j<=vs.length/\zeC (vs.drop j) (wth.drop j) u.name=zeC vs wth u.name) (fun j=>(8,.c (.d (.int .i64 j)))::rpDT vs wth) (fun _=>[.box (u.enc.map .d),bx4]) (fun j=>vs.length-j) 0 [0,1] ⟨by simp,by simp⟩ (by simp) fun j ⟨h1,h2⟩=>?_
  unfold zdK
  simp
  refine gd.mk (fun h=>?_) (fun h=>?_)
  ·have hj:j<vs.length:=by simpa using h
   have hj2:j<wth.length:=by omega
   rw[List.drop_eq_getElem_cons hj,List.drop_eq_getElem_cons hj2,zeC]at h2
   have hw:=wrap_i64 (n:=(j:Int)+1) (by omega) (by omega)
   by_cases q:vs[j]=u.name
   ·rw[if_pos q]at h2
    rw[<-h2]at hR
    simp only at hR
    subst hR
    simp[hj,hj2,q]
    refine⟨by decide,?_⟩
    refine fzK.mk [] ?_
    simp
    exact EndM.mk [] [] (by simp)
   ·rw[if_neg q]at h2
    simp[hj,hj2,q]
    refine⟨by decide,?_⟩
    refine Abs.Next.mk (j+1) [0,1] ⟨by omega,h2⟩ (by omega) ?_
    simp[hw]
  ·have hj:j=vs.length:=by simp at h;omega
   subst hj
   rw[List.drop_length,zeC]at h2
   rotate_left
   ·intros;contradiction
   rw[<-h2]at hR
   simp only at hR
   subst hR
   simp
   refine fzK.mk [] ?_
   simp
   exact EndM.mk [] [] (by simp)
 rw[if_neg k8]at hR
 simp[k8]
 refine owK.mk [.t 9] ?_
 simp
 obtain⟨F0,hF⟩:∃F0,accR vs wth [] u.kids=F0:=⟨_,rfl⟩
 rw[hF]at hR
 refine W.loop zab hp (fun x:Nat × List Typ=>x.1<=u.kids.length/\x.2.length<=x.1/\accR vs wth x.2 (u.kids.drop x.1)=F0) (fun x=>(10,.c (.d (.int .i64 x.1)))::(9,.c (.msl 4 2 0 x.2.length))::rpDT vs wth) (fun x=>[.box (u.enc.map .d),bx4,arrT x.2]) (fun x=>u.kids.length-x.1) (0,[]) [0,1,2] ⟨by simp,by simp,by simpa using hF⟩ (by simp) fun⟨j,a⟩ ⟨h1,h2,h3⟩=>?_
 unfold zdL
 simp only at h1 h2 h3
 simp
 refine gd.mk (fun h=>?_) (fun h=>?_)
 ·have hj:j<u.kids.length:=by simpa using h
  rw[List.drop_eq_getElem_cons hj,zoP]at h3
  obtain⟨x,hx⟩:∃x,u.kids[j]=x:=⟨_,rfl⟩
  have hm:=List.getElem_mem hj
  rw[hx]at h3 hm
  have hix:=ih x hm
  unfold RepD at hix
  have hw:=wrap_i64 (n:=(j:Int)+1) (by omega) (by omega)
  generalize zb1 vs wth x=r at*
  simp[hj,hx]
  refine zaa.mk [] hix (by simp) ?_
  by_cases q:r.2=true
  ·rw[if_pos q]at h3
   simp[q]
   refine⟨by omega,?_⟩
   refine Abs.Next.mk (j+1,a++[r.1]) [0,1,4] ⟨by simp only;omega,by simp;omega,h3⟩ (by simp only;omega) ?_
   simp[hw]
   exact zbH a
  ·rw[if_neg q]at h3
   subst h3
   simp only[Bool.false_eq_true,if_false]at hR
   subst hR
   simp[q]
   refine fzK.mk [] ?_
   simp
   exact EndM.mk [] [] (by simp)
 ·have hj:j=u.kids.length:=by simp at h;omega
  subst hj
  rw[List.drop_length]at h3
  have e:accR vs wth a []=(a,true):=by unfold accR;simp[zdk]
  rw[e]at h3
  subst h3
  simp only[if_true]at hR
  subst hR
  simp[zoQ]
  refine fzK.mk [2] ?_
  simp[zak,zaG]
  exact EndM.mk [] [] (by simp[zak,zan,zaG])
mutual
theorem zqY(vs:List ByteArray)(wth:List Typ)(hv:vs.length=wth.length)(hl:wth.length<=1000000):∀t:Typ,fewT t->RepD vs wth t
 |.mk k n s l,h=>by
  rw[fewT]at h
  exact zvV vs wth hv hl (.mk k n s l) h.1 (fun e he=>zoR vs wth hv hl l h.2 e he)
theorem zoR(vs:List ByteArray)(wth:List Typ)(hv:vs.length=wth.length)(hl:wth.length<=1000000):∀l:List Typ,zdY l->∀e,e∈l->RepD vs wth e
 |[],_,e,h=>by cases h
 |d::l,hf,e,h=>by
  rw[zdY]at hf
  cases h with
  |head=>exact zqY vs wth hv hl d hf.1
  |tail _ h=>exact zoR vs wth hv hl l hf.2 e h
end
set_option maxRecDepth 20000 in
set_option maxHeartbeats 4000000 in
theorem zg9(vs:List ByteArray)(wth:List Typ)(hl:wth.length<=1000000)(u:Typ):
  MCall Pg 75 [.ag (u.enc.map .d),.c (.d (.sl false 1 (encS vs))),.c (.d (.sl false 4 (wth.map Typ.enc)))] [] (.tup [.ag ((zaU u vs wth).1.enc.map .d),.c (.d (.int .i64 (zaU u vs wth).2))]) []:=by
 refine zhU ⟨by simp,by simp,by simp,by simp,by simp,by simp,by simp⟩ fun ts hts ok hb c hN hp=>?_
 have hts:=zvU hts
 subst hts
 obtain⟨R,hR⟩:∃R,zaU u vs wth=R:=⟨_,rfl⟩
 rw[hR]
 unfold zaU at hR
 unfold mc_g08_Resolve
 by_cases hv:vs.length=wth.length
 rotate_left
 ·rw[if_pos hv]at hR
  subst hR
  have hv':¬(vs.length:Int)=wth.length:=by omega
  simp[hv,hv']
  exact EndM.mkE [] [] (by simp[zaf,AV.erds,AV.erd])
 rw[if_neg (fun z=>z hv)]at hR
 have hv':(vs.length:Int)=wth.length:=by omega
 simp[hv']
 refine zac.mk (znD u) ?_
 by_cases s1:200<za0 u 201
 ·rw[if_pos (.inl s1)]at hR
  subst hR
  simp[s1]
  exact EndM.mkE [] [] (by simp[zaf,AV.erds,AV.erd])
 simp[s1]
 refine zac.mk (zjM u) ?_
 by_cases s2:16<za4 17 u
 ·rw[if_pos (.inr s2)]at hR
  subst hR
  simp[s2]
  exact EndM.mkE [] [] (by simp[zaf,AV.erds,AV.erd])
 rw[if_neg (by omega)]at hR
 have hrp:=zqY vs wth hv hl u (zgj u 201 (by omega) (by omega))
 unfold RepD at hrp
 generalize zb1 vs wth u=r at*
 simp[s2]
 refine zaa.mk [] hrp (by simp) ?_
 by_cases q:r.2=true
 ·rw[if_pos q]at hR
  have hn:=zeN r.1
  generalize zaS r.1=N at*
  subst hR
  simp[q]
  refine zac.mk hn ?_
  simp
  exact EndM.mk [] [] (by simp)
 ·rw[if_neg q]at hR
  subst hR
  simp[q]
  exact EndM.mkE [] [] (by simp[zaf,AV.erds,AV.erd])
abbrev RepO(vs:List ByteArray)(wth:List Typ)(u:Typ):Prop:=MCall Pg 115 [.ag (u.enc.map .d),.c (.msl 1 0 0 vs.length),.c (.d (.sl false 4 (wth.map Typ.enc)))] [strA vs] (.tup [.ag ((zb1 vs wth u).1.enc.map .d),.c (.d (.bool (zb1 vs wth u).2))]) [strA vs]
abbrev rpOT(vs:List ByteArray)(wth:List Typ):List (Nat × AV):=[(6,.c (.ptr 3 0)),(3,.c (.ptr 2 0)),(2,.c (.d (.sl false 4 (wth.map Typ.enc)))),(1,.c (.msl 1 0 0 vs.length))]
set_option maxRecDepth 20000 in
set_option maxHeartbeats 4000000 in
theorem zvW(vs:List ByteArray)(wth:List Typ)(hv:vs.length=wth.length)(hl:wth.length<=1000000)(u:Typ)(hk:u.kids.length<=200)(ih:∀e,e∈u.kids->RepO vs wth e):RepO vs wth u:=by
 refine zgZ ⟨by simp,by simp,by simp,by simp,by simp,by simp,by simp⟩ fun ts hts ok hb c hN hp=>?_
 obtain⟨t,rfl⟩:=zaR hts
 obtain⟨R,hR⟩:∃R,zb1 vs wth u=R:=⟨_,rfl⟩
 rw[hR]
 rw[zqX]at hR
 unfold zew
 by_cases k8:u.kind=8
 ·rw[if_pos k8]at hR
  by_cases n0:0<u.names.length
  ·rw[if_pos (.inl n0)]at hR
   subst hR
   simp[k8,n0]
   refine fzK.mk [] ?_
   simp
   exact EndM.mk [0] [1] (by simp)
  by_cases c0:0<u.kids.length
  ·rw[if_pos (.inr c0)]at hR
   subst hR
   simp[k8,n0,c0]
   refine fzK.mk [] ?_
   simp
   exact EndM.mk [0] [1] (by simp)
  rw[if_neg (by omega)]at hR
  simp[k8,n0,c0]
  refine W.loop zab hp (fun j:Nat=>j<=vs.length/\zeC (vs.drop j) (wth.drop j) u.name=zeC vs wth u.name) (fun j=>(8,.c (.d (.int .i64 j)))::rpOT vs wth) (fun _=>[strA vs,.pin t 0,.box (u.enc.map .d),bx4]) (fun j=>vs.length-j) 0 [0,1,2,3] ⟨by simp,by simp⟩ (by simp) fun j ⟨h1,h2⟩=>?_
  unfold zdK
  simp
  refine gd.mk (fun h=>?_) (fun h=>?_)
  ·have hj:j<vs.length:=by simpa using h
   have hj2:j<wth.length:=by omega
   rw[List.drop_eq_getElem_cons hj,List.drop_eq_getElem_cons hj2,zeC]at h2
   have hw:=wrap_i64 (n:=(j:Int)+1) (by omega) (by omega)
   by_cases q:vs[j]=u.name
   ·rw[if_pos q]at h2
    rw[<-h2]at hR
    simp only at hR
    subst hR
    simp[hj,hj2,q]
    refine⟨by decide,?_⟩
    refine fzK.mk [] ?_
    simp
    exact EndM.mk [0] [1] (by simp)
   ·rw[if_neg q]at h2
    simp[hj,hj2,q]
    refine⟨by decide,?_⟩
    refine Abs.Next.mk (j+1) [0,1,2,3] ⟨by omega,h2⟩ (by omega) ?_
    simp[hw]
  ·have hj:j=vs.length:=by simp at h;omega
   subst hj
   rw[List.drop_length,zeC]at h2
   rotate_left
   ·intros;contradiction
   rw[<-h2]at hR
   simp only at hR
   subst hR
   simp
   refine fzK.mk [] ?_
   simp
   exact EndM.mk [0] [1] (by simp)
 rw[if_neg k8]at hR
 simp[k8]
 refine owK.mk [.t 9] ?_
 simp
 obtain⟨F0,hF⟩:∃F0,accR vs wth [] u.kids=F0:=⟨_,rfl⟩
 rw[hF]at hR
 refine W.loop zab hp (fun x:Nat × List Typ=>x.1<=u.kids.length/\x.2.length<=x.1/\accR vs wth x.2 (u.kids.drop x.1)=F0) (fun x=>(10,.c (.d (.int .i64 x.1)))::(9,.c (.msl 4 4 0 x.2.length))::rpOT vs wth) (fun x=>[strA vs,.pin t 0,.box (u.enc.map .d),bx4,arrT x.2]) (fun x=>u.kids.length-x.1) (0,[]) [0,1,2,3,4] ⟨by simp,by simp,by simpa using hF⟩ (by simp) fun⟨j,a⟩ ⟨h1,h2,h3⟩=>?_
 unfold zdL
 simp only at h1 h2 h3
 simp
 refine gd.mk (fun h=>?_) (fun h=>?_)
 ·have hj:j<u.kids.length:=by simpa using h
  rw[List.drop_eq_getElem_cons hj,zoP]at h3
  obtain⟨x,hx⟩:∃x,u.kids[j]=x:=⟨_,rfl⟩
  have hm:=List.getElem_mem hj
  rw[hx]at h3 hm
  have hix:=ih x hm
  unfold RepO at hix
  have hw:=wrap_i64 (n:=(j:Int)+1) (by omega) (by omega)
  generalize zb1 vs wth x=r at*
  simp[hj,hx]
  refine zaa.mk [0] hix (by simp) ?_
  by_cases q:r.2=true
  ·rw[if_pos q]at h3
   simp[q]
   refine⟨by omega,?_⟩
   refine Abs.Next.mk (j+1,a++[r.1]) [0,1,2,3,6] ⟨by simp only;omega,by simp;omega,h3⟩ (by simp only;omega) ?_
   simp[hw]
   exact zbH a
  ·rw[if_neg q]at h3
   subst h3
   simp only[Bool.false_eq_true,if_false]at hR
   subst hR
   simp[q]
   refine fzK.mk [] ?_
   simp
   exact EndM.mk [0] [1] (by simp)
 ·have hj:j=u.kids.length:=by simp at h;omega
  subst hj
  rw[List.drop_length]at h3
  have e:accR vs wth a []=(a,true):=by unfold accR;simp[zdk]
  rw[e]at h3
  subst h3
  simp only[if_true]at hR
  subst hR
  simp[zoQ]
  refine fzK.mk [4] ?_
  simp[zak,zaG]
  exact EndM.mk [0] [1] (by simp[zak,zan,zaG])
mutual
theorem zqZ(vs:List ByteArray)(wth:List Typ)(hv:vs.length=wth.length)(hl:wth.length<=1000000):∀t:Typ,fewT t->RepO vs wth t
 |.mk k n s l,h=>by
  rw[fewT]at h
  exact zvW vs wth hv hl (.mk k n s l) h.1 (fun e he=>zoS vs wth hv hl l h.2 e he)
theorem zoS(vs:List ByteArray)(wth:List Typ)(hv:vs.length=wth.length)(hl:wth.length<=1000000):∀l:List Typ,zdY l->∀e,e∈l->RepO vs wth e
 |[],_,e,h=>by cases h
 |d::l,hf,e,h=>by
  rw[zdY]at hf
  cases h with
  |head=>exact zqZ vs wth hv hl d hf.1
  |tail _ h=>exact zoS vs wth hv hl l hf.2 e h
end
set_option maxRecDepth 20000 in
set_option maxHeartbeats 4000000 in
theorem zrX(vs:List ByteArray)(wth:List Typ)(hl:wth.length<=1000000)(u:Typ):
  MCall Pg 75 [.ag (u.enc.map .d),.c (.msl 1 0 0 vs.length),.c (.d (.sl false 4 (wth.map Typ.enc)))] [strA vs] (.tup [.ag ((zaU u vs wth).1.enc.map .d),.c (.d (.int .i64 (zaU u vs wth).2))]) [strA vs]:=by
 refine zhU ⟨by simp,by simp,by simp,by simp,by simp,by simp,by simp⟩ fun ts hts ok hb c hN hp=>?_
 obtain⟨t,rfl⟩:=zaR hts
 obtain⟨R,hR⟩:∃R,zaU u vs wth=R:=⟨_,rfl⟩
 rw[hR]
 unfold zaU at hR
 unfold mc_g08_Resolve
 by_cases hv:vs.length=wth.length
 rotate_left
 ·rw[if_pos hv]at hR
  subst hR
  have hv':¬(vs.length:Int)=wth.length:=by omega
  simp[hv,hv']
  exact EndM.mkE [0] [1] (by simp[zaf,AV.erds,AV.erd])
 rw[if_neg (fun z=>z hv)]at hR
 have hv':(vs.length:Int)=wth.length:=by omega
 simp[hv']
 refine zac.mk (znD u) ?_
 by_cases s1:200<za0 u 201
 ·rw[if_pos (.inl s1)]at hR
  subst hR
  simp[s1]
  exact EndM.mkE [0] [1] (by simp[zaf,AV.erds,AV.erd])
 simp[s1]
 refine zac.mk (zjM u) ?_
 by_cases s2:16<za4 17 u
 ·rw[if_pos (.inr s2)]at hR
  subst hR
  simp[s2]
  exact EndM.mkE [0] [1] (by simp[zaf,AV.erds,AV.erd])
 rw[if_neg (by omega)]at hR
 have hrp:=zqZ vs wth hv hl u (zgj u 201 (by omega) (by omega))
 unfold RepO at hrp
 generalize zb1 vs wth u=r at*
 simp[s2]
 refine zaa.mk [0] hrp (by simp) ?_
 by_cases q:r.2=true
 ·rw[if_pos q]at hR
  have hn:=zeN r.1
  generalize zaS r.1=N at*
  subst hR
  simp[q]
  refine zac.mk hn ?_
  simp
  exact EndM.mk [0] [1] (by simp)
 ·rw[if_neg q]at hR
  subst hR
  simp[q]
  exact EndM.mkE [0] [1] (by simp[zaf,AV.erds,AV.erd])
end Go.Gr
