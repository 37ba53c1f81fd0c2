/- Texts of ours, joined and written short by a program of ours. -/
import Derived.Test.YtlfjlokfciejnaaGreatDoorLJ16
import Derived.Test.YtlfjlokfciejnaaGreatDoorLSrt
import Derived.Test.YtlfjlokfciejnaaGreatDoorLLayK
import Derived.Test.YtlfjlokfciejnaaGreatDoorLJ17
set_option maxRecDepth 20000
set_option maxHeartbeats 4000000
set_option linter.unusedVariables false
set_option linter.unusedSimpArgs false
namespace Go.Gr.P
open Go.Abs Go.Proofs Go.RowKit Go.Maps Go.Sort Go.Shelf
theorem zIU(m:Nat):AnyZ.SortsIn Tryz.prog Tryz.sorted150_ren Fence.wide m:=
⟨λblk off cap ss W hH hblk hsz=>callsIn_wide.2 (AnyM.slices_Sort_string Tryz.sort174 blk off cap ss W hH hblk hsz),
 λp cap W=>callsIn_wide.2 (AnyM.slices_Sort_string_none Tryz.sort174 p cap W)⟩
theorem zz8{H:Type}(Bm b nn:Nat)(D0:DataW H)(R:Value->Option (DataW H × List MemPlace))(w:World)(hB:Bm<w.heap.size)(hm:w.cell? ⟨Bm,0,none⟩=some (.map (some b)))(hown:w.ownsMap Tryz.prog 9 R b nn D0)(hmax:Maps.size D0<=maxLen)(hbytes:Maps.size D0*16<=140737488355328):
  Calls Tryz.prog 150 #[.func (.func 175) #[] #[.pointer (some ⟨Bm,0,none⟩)]] w λe w'=>∃(v:Value) (ss:List (List UInt8)),e=.returned v/\ss.Perm (strKeys D0)/\
   w'.ownsRow w.heap.size 9 1 v ss.length ((ss.mergeSort (λx y=>decide (x<=y))).map encStr)/\(v=.slice none 0 0↔ss=[])/\Below w.heap.size w w':=by
 refine(callsIn_wide (n:=5)).1 ?_
 have hseq:SeqGives Fence.wide 2 Tryz.prog 175 #[.pointer (some ⟨Bm,0,none⟩)] encStr (λss=>ss.Perm (strKeys D0)) (Maps.size D0) w:=
  AnyZ.keys_gives (ρ:=Tryz.keys151_ren) {Tryz.keys151 with} Fence.wide _ trivial rfl (by omega) Bm b nn D0 _ hB hm hown
 exact AnyZ.sorted_in Tryz.sorted150 Fence.wide 5 trivial trivial trivial trivial rfl (by omega) (zIU _) (enters_of Tryz.func174 (by kernel_rfl) rfl) 175 #[.pointer (some ⟨Bm,0,none⟩)] trivial (enters_of Tryz.func175 (by kernel_rfl) rfl) _ _ hmax hbytes _ hseq
end Go.Gr.P
namespace Go.Gr.P
open Go.Abs Go.Proofs Go.RowKit List
def iO(l:List (fF × gp)):List (D × AV):=l.map λx=>(.str x.1,.ag (x.2.enc.map .d))
@[simp] theorem zJ2(f:Nat->Nat)(l:List (fF × gp)):(iO l).map (λe=>(e.1,AV.ren f e.2))=iO l:=by simp[iO]
theorem rJ{n:Nat}{l:List (fF × gp)}{a:D}{b:AV}(h:(a,b)∈iO l):AV.lt n b=true:=by
 simp only[iO,aY]at h;obtain⟨x,_,e⟩:=h;cases e;simp
theorem Jr{f:Nat->Bool}{l:List (fF × gp)}(a:D)(b:AV)(h:(a,b)∈iO l):AV.lv f b=true:=by
 simp only[iO,aY]at h;obtain⟨x,_,e⟩:=h;cases e;simp
@[simp] theorem zAg(l:List (fF × gp)):(iO l).map (·.1)=(l.map (·.1)).map .str:=by simp[iO]
theorem zAh(l:List (fF × gp)):MCall Pg 151 [.c (.map 0)] [.map (iO l)] (.c (.fn (.func 175) [.ptr 1 0])) [.map (iO l),.box [.map 0]]:=by
 refine zqe ⟨by simp,by simp,by simp,by simp,by simp,by simp[live],by simp[live];exact Jr⟩ λts hts ok hb c hN hp=>?_;obtain⟨t,rfl⟩:=lw hts;unfold zpg;simp;exact fM [0,2] [1]
theorem zFZ{h:PH}{ρ:RM}{es:List (D × AV)}{w:World}{g:FuncId}{argsC:List Value}(K:HRel h ρ (hpOf [.map es,.box [.map 0]]) w.heap)(r:zai h ρ [.c (.fn (.func g) [.ptr 1 0])] argsC):
  ∃(p0:Nat × Nat) (B:Nat),argsC=[.func (.func g) #[] #[.pointer (some ⟨B,0,none⟩)]]/\B<w.heap.size/\w.cell? ⟨B,0,none⟩=some (.map (some p0.1))/\zaI h ρ p0 (.map es) w.heap:=by
 match argsC,r with
 | [v],r=>
  simp only[zai,RepV,RepC,and_true]at r;obtain⟨vs,e1,e2,e3⟩:=r
  match vs,e2,e3 with
  | [u],_,e3=>
   simp only[iG,RepC,and_true]at e3;obtain⟨_,p1,q1,q2⟩:=e3;have hb:=K.own 1 p1 q1;simp[hpOf,zaI]at hb;obtain⟨us,⟨T,b1⟩,b2,b3⟩:=hb
   match us,b2,b3 with
   | [x],_,b3=>
    simp only[iG,RepC,and_true]at b3;obtain⟨_,p0,c1,c2⟩:=b3;have h0:=K.own 0 p0 c1;refine⟨p0,p1.1,by rw[e1,q2],?_,?_,by simpa[hpOf]using h0⟩
    ·rcases aW p1.1 w.heap.size with g|g
     ·exact g
     ·rw[ak g]at b1;cases b1
    ·simp[World.cell?,b1,c2]
theorem zxK(l:List (fF × gp))(hn:(l.map (·.1)).Nodup)(hl:l.length<=1073741824):
  MCall Pg 150 [.c (.fn (.func 175) [.ptr 1 0])] [.map (iO l),.box [.map 0]] (.c (.d (.sl false 1 (encS (zco (l.map (·.1))))))) [.map (iO l),.box [.map 0]]:=by
 have hlen:(zco (l.map (·.1))).length=l.length:=by simp[zco]
 have hm:(140737488355328:Nat)<=maxLen:=by decide
 have e:encS (zco (l.map (·.1)))=((zco (l.map (·.1))).map D.str).map λd=>[d]:=by simp[encS]
 rw[e];refine MCall.row (by decide+kernel) (BS (by simp)) (by simp[live];exact Jr) (by simp[hlen,zah];omega) λh ρ w argsC K r=>?_;obtain⟨p0,B,rfl,hB,hc,hmap⟩:=zFZ K r;obtain⟨D0,o1,o2,o3⟩:=zJj (P:=Tryz.prog) (k:=9) Tryz.underlying9 (zAg l) hn (by simpa using hl) hmap;have o2':Maps.size D0=l.length:=by rw[o2];simp
 refine(zz8 B p0.1 _ D0 zrv w hB hc o1 (by omega) (by omega)).mono λe w' q=>?_;obtain⟨v,ss,q1,q2,q3,_,q5⟩:=q;have q6:ss.Perm ((l.map (·.1)).map λs=>s.data.toList):=q2.trans o3;have q7:ss.mergeSort (λx y=>decide (x<=y))=((l.map (·.1)).map λs=>s.data.toList).mergeSort λx y=>decide (x<=y):=mergeSort_of_perm q6;obtain⟨ms,ck,_,g2,_⟩:=hmap;obtain⟨_,hsz⟩:=zvn (P:=Tryz.prog) (k:=9) (zAg l) g2;have hss:ss.length=l.length:=by simpa using q6.length_eq
 refine⟨v,_,9,q1,λh=>ziN λx hx=>?_,by simpa[hss,hlen,q7]using q3,q5⟩;have hx':=(mergeSort_perm _ _).mem_iff.1 hx;obtain⟨s,hs,rfl⟩:=aY.1 hx';rw[cz];exact hsz s hs
end Go.Gr.P
namespace Go.Gr.P
open Go.Abs Go.Proofs List
theorem Gd{k:fF}:∀{l:List (fF × gp)} (i:Nat),k∈l.map (·.1)->∃j,kK 1 (.str k) (iO l) i=some (some (j,.ag ((sI l k).enc.map .d)))
|[],i,h=>by simp at h
| x::l,i,h=>by
 by_cases e:k=x.1
 ·exact⟨i,by simp[iO,sI,e]⟩
 ·have:k∈l.map (·.1):=by
   simp only[map_cons,aN]at h;exact h.resolve_left e
  obtain⟨j,hj⟩:=Gd (i+1) this;simp only[iO]at hj;exact⟨j,by simp[iO,sI,e,hj]⟩
theorem zEJ(a b f:D)(l:List (fF × gp))(hn:(l.map (·.1)).Nodup)(hl:l.length<=1073741824):
  MCall Pg 105 [.c (.ptr 0 0),.c (.map 1)] [.box [.d a,.d b,.d (.sl true 1 []),.d (.sl true 5 []),.d f],.map (iO l)] (.tup [])
   [.box [.d a,.d b,.msl 1 2 0 (kT l (zco (l.map (·.1)))).length,.msl 5 3 0 (kT l (zco (l.map (·.1)))).length,.d f],.map (iO l),
    .arr 1 ((encS ((kT l (zco (l.map (·.1)))).map (·.1))).map (·.map .d)),.arr 5 (((kT l (zco (l.map (·.1)))).map (·.2.enc)).map (·.map .d))]:=by
 refine ZR ⟨by simp,by simp,by simp,by simp,by simp,by simp,by simp[live];exact Jr⟩ λts hts ok hb c hN hp=>?_;obtain⟨t0,t1,rfl⟩:=Fs hts;unfold PK;simp;refine fV [.c 0 2,.c 0 3] ?_;simp;refine gQ [1] (zAh l) (by simp;exactλa b h=>rJ h) ?_;simp;refine gQ [1,6] (zxK l hn hl) (by simp;exactλa b h=>rJ h) ?_;simp;have hks:(zco (l.map (·.1))).length<=1073741824:=by simpa[zco]using hl
 have hmem:∀k,k∈zco (l.map (·.1))->k∈l.map (·.1):=λk hk=>JQ.1 hk;generalize zco (l.map (·.1))=ks at*
 refine fQ gz hp EZ [11] (λj:Nat=>j<=ks.length) (λj=>[.c (.d (.int .i64 j))])
  (λj=>[.box [.d a,.d b,.msl 1 2 0 (kT l (ks.take j)).length,.msl 5 3 0 (kT l (ks.take j)).length,.d f],.map (iO l),.arr 1 ((encS ((kT l (ks.take j)).map (·.1))).map (·.map .d)),.arr 5 (((kT l (ks.take j)).map (·.2.enc)).map (·.map .d)),.pin t0 0,.pin t1 1])
  (λj=>ks.length-j) 0 [0,1,4,5,2,3] (by simp) (by simp[EZ,kT,encS];exactλa b h=>rJ h) λj h1=>?_
 unfold PI EZ;simp;apply gN<;>intro h
 ·have hj:j<ks.length:=by simpa using h
  simp[aA hj];obtain⟨i,hi⟩:=Gd (l:=l) 0 (hmem _ (aO hj));simp[hi];refine gT (yK _) ?_;have hs:=X7 (l:=l) hj;have hlen:=X8 l (ks.take j);rw[bN]at hlen;generalize sI l ks[j]=d at hs⊢;simp;apply gN<;>intro h
  ·simp at h;rw[h]at hs;simp at hs;refine⟨by omega,by omega,by decide,?_⟩;refine fG (j+1) [0,1,7,8,4,5] (by omega) (by omega) ?_;simp[hs];refine⟨wI,λa b h=>rJ h,?_,?_⟩
   ·rw[aD (by simp)]<;>simp[encS]
   ·rw[aD (by simp)]<;>simp[Function.comp_def]
  ·simp at h;rw[h]at hs;simp at hs;refine fG (j+1) [0,1,2,3,4,5] (by omega) (by omega) ?_;simp[hs];exact⟨wI,λa b h=>rJ h⟩
 ·have hj:j=ks.length:=by simp at h;omega
  subst hj;simp;exact fM [0,1,2,3] [4,5]
end Go.Gr.P
namespace Go.Gr.P
open Go.Abs
section
variable {v:gp->gp->gp} {a b:gp}
end
section
variable {a b c:gp}
end
end Go.Gr.P
namespace Go.Gr.P
open Go.Abs Go.Proofs List
theorem Pd(l:List (fF × Int))(hl:l.length<=1073741824):gY Pg 103 [.one (.sl false 2 (iK l))] (.one (.sl false 2 (iK l))):=by
 refine zro (by simp) λo c hN hp=>?_;unfold Jn;cases l with
 |nil=>
  simp[iK];refine⟨fV [] ?_,fV [] ?_⟩<;>simp
 |cons x l=>
  simp[iK];refine⟨by simp at hl;omega,?_⟩;refine fV [] ?_;simp;rw[aD (by simp)]
theorem Js(k:fF)(d:gp):∀(l:List (fF × gp)) (i:Nat),(∃j w,kK 1 (.str k) (iO l) i=some (some (i+j,w))/\(iO l).set j (.str k,.ag (d.enc.map .d))=iO (kP l k d))\/
 (kK 1 (.str k) (iO l) i=some none/\iO l++[(.str k,.ag (d.enc.map .d))]=iO (kP l k d))
|[],i=>.inr ⟨rfl,rfl⟩
| x::l,i=>by
 by_cases e:k=x.1
 ·refine .inl ⟨0,.ag (x.2.enc.map .d),?_,?_⟩
  ·simp[iO,e]
  ·simp[iO,kP,e]
 ·have ih:=Js k d l (i+1);simp only[iO]at ih;rcases ih with⟨j,w,h1,h2⟩|⟨h1,h2⟩
  ·refine .inl ⟨j+1,w,?_,?_⟩
   ·simp[iO,e,h1];omega
   ·simp[iO,kP,e,h2]
  ·refine .inr ⟨?_,?_⟩
   ·simp[iO,e,h1]
   ·simpa[iO,kP,e]using h2
theorem E8{k:fF}:∀{l:List (fF × gp)} (i:Nat),k∉l.map (·.1)->kK 1 (.str k) (iO l) i=some none
|[],i,_=>rfl
|x::l,i,h=>by
 simp only[map_cons,aN,dO]at h;have ih:=E8 (l:=l) (i+1) h.2;simp only[iO]at ih;simp[iO,h.1,ih]
theorem cmp0{c:Ctx}(hp:c.pure){a b:gp}(Ma:May a)(Mb:May b){Q:Exit->St->Prop}{S:St}{g}
  (h0:iM [0,1,2] S ((23,.c (.d (.int .i64 0)))::(21,.c (.d (.sl false 1 (encI a.tags))))::(22,.c (.d (.int .i64 a.tags.length)))::EW a b) [mg,.arr 1 ((encI rF).map (·.map .d)),.box [.msl 1 1 0 6,.d (.sl true 2 []),.d (.sl true 1 []),.d (.sl true 5 []),.d (.sl true 5 [])]])
  (hQ:∀T,Abs.look T 2=.c (.d (.rp a.enc 0))->Abs.look T 3=.c (.d (.rp b.enc 0))->Abs.look T 4=.c (.ptr 0 0)->Abs.look T 5=.c (.ptr 2 0)->
   Q (.exit 0) ⟨T,hpOf [mg,.arr 1 ((encI (lD a.tags b.tags)).map (·.map .d)),.box [.msl 1 1 0 6,.d (.sl true 2 []),.d (.sl true 1 []),.d (.sl true 5 []),.d (.sl true 5 [])]],3⟩):mV Pg c Ov Q g S:=by
 have hL:(lD a.tags b.tags).length=6:=ET Ma.tags Mb.tags
 refine fP gz hp (λj:Nat=>j<=6) (λj=>(23,.c (.d (.int .i64 j)))::(21,.c (.d (.sl false 1 (encI a.tags))))::(22,.c (.d (.int .i64 a.tags.length)))::EW a b)
  (λj=>[mg,.arr 1 ((encI (qV (lD a.tags b.tags) j)).map (·.map .d)),.box [.msl 1 1 0 6,.d (.sl true 2 []),.d (.sl true 1 []),.d (.sl true 5 []),.d (.sl true 5 [])]])
  (λj=>6-j) 0 [0,1,2] (by simp) h0 λj h1=>?_
 unfold Ov;simp;apply gN<;>intro h
 ·have hj:j<6:=by have:=Ma.tags;simp at h;omega
  have hja:j<a.tags.length:=by rw[Ma.tags];exact hj
  have hjb:j<b.tags.length:=by rw[Mb.tags];exact hj
  have hup:(qV (lD a.tags b.tags) j).length=6:=by simp[qV,hL];omega
  have hju:j<(qV (lD a.tags b.tags) j).length:=by omega
  have hset:∀x,x=(lD a.tags b.tags)[j]'(by omega)->(encI (qV (lD a.tags b.tags) j)).set j [.int .i64 x]=encI (qV (lD a.tags b.tags) (j+1)):=λx e=>by
   rw[e,<-Xq,Xp hL hj]
  have hval:(lD a.tags b.tags)[j]'(by omega)=if a.tags[j]=0 then b.tags[j]else a.tags[j]:=by simp[lD]
  simp[aA hja,aA hjb,aA hju];apply gN<;>intro h
  ·simp at h;refine⟨by omega,?_⟩;refine fG (j+1) [0,1,2] (by omega) (by omega) ?_;simp;refine⟨wI,?_⟩;rw[<-hset b.tags[j] (by rw[hval,aC h])];simp[fE]
  ·simp at h;refine⟨by omega,?_⟩;refine fG (j+1) [0,1,2] (by omega) (by omega) ?_;simp;refine⟨wI,?_⟩;rw[<-hset a.tags[j] (by rw[hval,aB h])];simp[fE]
 ·have hj:j=6:=by have:=Ma.tags;simp at h;omega
  subst hj;have hup:qV (lD a.tags b.tags) 6=lD a.tags b.tags:=by
   unfold qV;rw[aD (by omega)];simp
  rw[hup];exact hQ _ (by simp) (by simp) (by simp) (by simp)
theorem Pe{c:Ctx}(hp:c.pure){a b:gp}(Ma:May a)(hal:a.names.length<=1073741824)(Tg:List Int)(N:List (fF × Int)){Q:Exit->St->Prop}{S:St}{g}
  (h0:iM [0,1,2,3] S ((65,.c (.d (.int .i64 0)))::(63,.c (.d (.sl false 1 (encS a.names))))::(64,.c (.d (.int .i64 a.names.length)))::(8,.c (.map 3))::EW a b) [mg,.dead,wC Tg N,.map []])
  (hQ:∀T,Abs.look T 2=.c (.d (.rp a.enc 0))->Abs.look T 3=.c (.d (.rp b.enc 0))->Abs.look T 4=.c (.ptr 0 0)->Abs.look T 5=.c (.ptr 2 0)->Abs.look T 8=.c (.map 3)->
   Q (.exit 2) ⟨T,hpOf [mg,.dead,wC Tg N,.map (iO (a.names.zip a.fields))],4⟩):mV Pg c Ow Q g S:=by
 refine fP gz hp (λj:Nat=>j<=a.names.length) (λj=>(65,.c (.d (.int .i64 j)))::(63,.c (.d (.sl false 1 (encS a.names))))::(64,.c (.d (.int .i64 a.names.length)))::(8,.c (.map 3))::EW a b)
  (λj=>[mg,.dead,wC Tg N,.map (iO ((a.names.zip a.fields).take j))])
  (λj=>a.names.length-j) 0 [0,1,2,3] (by simp) (by simpa[iO]using h0) λj h1=>?_
 unfold Ow;simp;apply gN<;>intro h
 ·simp at h;have hj:j<a.names.length:=by omega
  have hj':j<a.fields.length:=by have:=Ma.len;omega
  simp[aA hj,aA hj'];have hz:j<(a.names.zip a.fields).length:=by simp;omega
  have hk:a.names[j]∉((a.names.zip a.fields).take j).map (·.1):=by
   rw[zz1 Ma.len];exact EU (sW Ma.names) hj
  simp[E8 0 hk];refine fG (j+1) [0,1,2,3] (by omega) (by omega) ?_;simp;refine⟨wI,?_,λa b h=>rJ h⟩;rw[aJ hz];simp[iO]
 ·have hj:j=a.names.length:=by simp at h;omega
  subst hj;have hz:(a.names.zip a.fields).take a.names.length=a.names.zip a.fields:=aD (by simp;omega);rw[hz];exact hQ _ (by simp) (by simp) (by simp) (by simp) (by simp)
theorem Pf{c:Ctx}(hp:c.pure){v:gp->gp->gp}{a b:gp}(Ma:May a)(Mb:May b)(hbl:b.names.length<=1073741824)(hu:∀k,v idC (kL b k)=kL b k)
  (H1:∀k,k∈a.names->k∈b.names->gY Pg 64 [.agg (kL a k).enc,.agg (kL b k).enc] (.agg (v (kL a k) (kL b k)).enc))
  (Tg:List Int) (N:List (fF × Int)) {Q:Exit->St->Prop} {S:St} {g}
  (h0:iM [0,1,2,3] S ((81,.c (.d (.int .i64 0)))::(79,.c (.d (.sl false 1 (encS b.names))))::(80,.c (.d (.int .i64 b.names.length)))::(8,.c (.map 3))::EW a b) [mg,.dead,wC Tg N,.map (iO (a.names.zip a.fields))])
  (hQ:∀T l,G6 v a b b.names.length l->Abs.look T 2=.c (.d (.rp a.enc 0))->Abs.look T 3=.c (.d (.rp b.enc 0))->Abs.look T 4=.c (.ptr 0 0)->Abs.look T 5=.c (.ptr 2 0)->Abs.look T 8=.c (.map 3)->
   Q (.exit 4) ⟨T,hpOf [mg,.dead,wC Tg N,.map (iO l)],4⟩):mV Pg c Ox Q g S:=by
 refine fP gz hp (λx:Nat × List (fF × gp)=>x.1<=b.names.length/\G6 v a b x.1 x.2) (λx=>(81,.c (.d (.int .i64 x.1)))::(79,.c (.d (.sl false 1 (encS b.names))))::(80,.c (.d (.int .i64 b.names.length)))::(8,.c (.map 3))::EW a b)
  (λx=>[mg,.dead,wC Tg N,.map (iO x.2)])
  (λx=>b.names.length-x.1) (0,a.names.zip a.fields) [0,1,2,3] ⟨by simp,zHO Ma⟩ h0 λ⟨j,l⟩ ⟨h1,hI⟩=>?_
 unfold Ox;simp only at h1 hI;simp;apply gN<;>intro h
 ·have hj:j<b.names.length:=by simpa using h
  have hj':j<b.fields.length:=by have:=Mb.len;omega
  have hf:kL b b.names[j]=b.fields[j]:=Xc hj hj' (sW Mb.names);have hcon:b.names[j]∈l.map (·.1)↔b.names[j]∈a.names:=by
   rw[hI.1];simp only[aK,au];exact⟨λh=>h.elim id λh=>absurd h.1 (EU (sW Mb.names) hj),.inl⟩
  have hnext:=λd hd=>zHP (d:=d) Ma Mb hj hI hd;rw[hf]at hnext;simp[aA hj,aA hj'];by_cases hk:b.names[j]∈l.map (·.1)
  ·have hka:=hcon.1 hk;have hat:sI l b.names[j]=kL a b.names[j]:=by
    rw[hI.2 _ hk,aB (EU (sW Mb.names) hj)]
   obtain⟨i',hi⟩:=Gd (l:=l) 0 hk;rcases Js b.names[j] b.fields[j] l 0 with⟨i,w,m1,m2⟩|⟨m1,m2⟩
   rotate_left
   ·rw[hi]at m1;cases m1
   rw[hi]at m1;simp only[ai,bX]at m1;obtain⟨rfl,rfl⟩:=m1;rw[hat]at hi;simp[hi,m2];have hk2:b.names[j]∈(kP l b.names[j] b.fields[j]).map (·.1):=by rw[JY,aC hk];exact hk
   have hcall:=H1 _ hka (aO hj);rw[hf]at hcall;refine gT hcall ?_;simp;rcases Js b.names[j] (v (kL a b.names[j]) b.fields[j]) (kP l b.names[j] b.fields[j]) 0 with⟨i2,w,m3,m4⟩|⟨m3,m4⟩
   rotate_left
   ·obtain⟨i3,hi3⟩:=Gd (l:=kP l b.names[j] b.fields[j]) 0 hk2;rw[hi3]at m3;cases m3
   simp[m2,m3,m4,Xo];refine⟨by decide,?_⟩;refine fG (j+1,kP l b.names[j] (v (kL a b.names[j]) b.fields[j])) [0,1,2,3] ⟨by simp;omega,hnext _ rfl⟩ (by simp;omega) ?_;simp;exact⟨wI,λa b h=>rJ h⟩
  ·have hka:b.names[j]∉a.names:=λh=>hk (hcon.2 h);rcases Js b.names[j] b.fields[j] l 0 with⟨i,w,m1,m2⟩|⟨m1,m2⟩
   ·rw[E8 0 hk]at m1;cases m1
   simp[m1,m2];have hz0:kL a b.names[j]=idC:=xn hka;have hu':=hu b.names[j];rw[hf]at hu';refine fG (j+1,kP l b.names[j] b.fields[j]) [0,1,2,3] ⟨by simp;omega,hnext _ (by rw[hz0,hu'])⟩ (by simp;omega) ?_;simp;exact⟨wI,λa b h=>rJ h⟩
 ·have hj:j=b.names.length:=by simp at h;omega
  subst hj;exact hQ _ l hI (by simp) (by simp) (by simp) (by simp) (by simp)
@[simp] theorem zGa:encS []=[]:=rfl
structure zC (v:gp->gp->gp) (a b:gp):Prop where
 Ma:May a
 Mb:May b
 v0:v idC idC=idC
 hu:∀k,v (kL a k) idC=kL a k/\v idC (kL b k)=kL b k
 sa:rH 536870912 a
 sb:rH 536870912 b
 H1:∀k,k∈a.names->k∈b.names->gY Pg 64 [.agg (kL a k).enc,.agg (kL b k).enc] (.agg (v (kL a k) (kL b k)).enc)
 H2:0<a.fn.length+b.fn.length->gY Pg 64 [.agg (jD b).1.enc,.agg (jD a).1.enc] (.agg (v (jD b).1 (jD a).1).enc)
 H3:0<a.fn.length+b.fn.length->gY Pg 64 [.agg (jD a).2.enc,.agg (jD b).2.enc] (.agg (v (jD a).2 (jD b).2).enc)
theorem Ph{v:gp->gp->gp}{a b:gp}(H:zC v a b):(jG v a b).fn=if iF (jG v a b) 5=0/\0<a.fn.length+b.fn.length then mU (v (jD b).1 (jD a).1) (v (jD a).2 (jD b).2)else []:=by
 have h0:(jG v a b).fn=if iF (jG v a b) 5=0 then mU (v (jD b).1 (jD a).1) (v (jD a).2 (jD b).2)else []:=rfl;rw[h0];by_cases q:iF (jG v a b) 5=0
 ·by_cases r:0<a.fn.length+b.fn.length
  ·rw[aC q,aC ⟨q,r⟩]
  ·have ea:a.fn=[]:=aU.1 (by omega);have eb:b.fn=[]:=aU.1 (by omega);have pa:jD a=(idC,idC):=by unfold jD;rw[ea]
   have pb:jD b=(idC,idC):=by unfold jD;rw[eb]
   rw[aC q,aB (λh=>r h.2),pa,pb];unfold mU;simp[H.v0,JS]
 ·rw[aB q,aB (λh=>q h.1)]
theorem zEA{v:gp->gp->gp}{a b:gp}(H:zC v a b)(q4:iF a 4=0)(r4:iF (jG v a b) 4=0):gY Pg 64 [.agg a.enc,.agg b.enc] (.agg (jG v a b).enc):=by
 have Ma:=H.Ma;have Mb:=H.Mb;have sa:=H.sa;have sb:=H.sb;refine Oy (by simp) λo c hN hp=>?_;have hL:(lD a.tags b.tags).length=6:=ET Ma.tags Mb.tags;unfold Jl;simp;refine gP [] Gc ?_;simp;refine cmp0 hp Ma Mb (by simp) λS0 e2 e3 e4 e5=>?_;have ha4:a.tags[4]?=some (iF a 4):=zl Ma.tags (by omega);have hc4:(lD a.tags b.tags)[4]?=some (iF (jG v a b) 4):=zl hL (by omega);have hc5:(lD a.tags b.tags)[5]?=some (iF (jG v a b) 5):=zl hL (by omega);have hE:(jG v a b).enc=[.sl false 1 (encI (lD a.tags b.tags)),.sl false 2 (iK (jG v a b).needs),.sl false 1 (encS (jG v a b).names),.sl false 5 ((jG v a b).fields.map gp.enc),.sl false 5 ((jG v a b).fn.map gp.enc)]:=gp.enc_eq _;have hneeds:(jG v a b).needs=tZ a b:=rfl;have hnames:(jG v a b).names=if iF (jG v a b) 4=0 then(rG v a b).map (·.1)else []:=rfl;have hfields:(jG v a b).fields=if iF (jG v a b) 4=0 then(rG v a b).map (·.2)else []:=rfl;have hfn:=Ph H;rw[hE,hneeds,hnames,hfields,hfn];unfold tZ;clear hE hneeds hnames hfields hfn;have h6:6<=(lD a.tags b.tags).length:=by omega
 have hnn:a.needs.length<=1073741824/\b.needs.length<=1073741824:=⟨by have:=sa.needs;omega,by have:=sb.needs;omega⟩
 have hfl:a.fn.length<=2/\b.fn.length<=2:=⟨by have:=Ma.fn_len;omega,by have:=Mb.fn_len;omega⟩
 generalize lD a.tags b.tags=T at*
 have htk:(encI T).take 6=encI T:=aD (by simp[hL]);simp;refine fU [1] ?_;simp[iZ,h6,htk,e2,e3,e4,e5];refine gT (Pd a.needs hnn.1) ?_;rw[aC q4,aC r4,aC r4];simp[iZ,ha4,q4,e2,e3,e4,e5];refine gT (zBz a.needs b.needs hnn.1 hnn.2) ?_;simp[iZ,hc4,h6,htk,r4,e2,e3,e4,e5];have hal:a.names.length<=1073741824:=by have:=sa.fields;have:=Ma.len;omega
 have hbl:b.names.length<=1073741824:=by have:=sb.fields;have:=Mb.len;omega
 refine Pe hp (a:=a) (b:=b) Ma hal T (o5 a.needs b.needs) (by simp[iZ,e2,e3,e4,e5,h6,htk]) λS1 e2 e3 e4 e5 e8=>?_;simp[e2,e3,e4,e5,e8];refine Pf hp Ma Mb hbl (λk=>(H.hu k).2) H.H1 T (o5 a.needs b.needs) (by simp[e2,e3,e4,e5,e8];exactλa b h=>rJ h) λS2 l hI e2 e3 e4 e5 e8=>?_;have hk1:=hI.1;rw[bO]at hk1;have hnd:(l.map (·.1)).Nodup:=by rw[hk1];exact Xh (sW Ma.names) (sW Mb.names)
 have hlen:l.length<=1073741824:=by
  have e1:l.length=(l.map (·.1)).length:=by simp
  have e2:=bP (λk=> !decide (k∈a.names)) b.names;have:=sa.fields;have:=sb.fields;have:=Ma.len;have:=Mb.len;rw[e1,hk1,aT];omega
 have hsort:zco (l.map (·.1))=zi a b:=by rw[hk1];try rfl
 have hout:kT l (zco (l.map (·.1)))=rG v a b:=by
  rw[hsort];unfold kT rG busy;congr 1;refine bf λk hk=>?_;have hk':=Xg.1 hk;have hkl:k∈l.map (·.1):=by
   rw[hk1];simp only[aK,au];by_cases q:k∈a.names
   ·exact .inl q
   ·exact .inr ⟨hk'.resolve_left q,by simp[q]⟩
  rw[hI.2 k hkl,bO];split
  ·rfl
  ·rename_i q;have:kL b k=idC:=xn q;rw[this,(H.hu k).1]
 have hfk:=zEJ (.sl false 1 (encI T)) (.sl false 2 (iK (o5 a.needs b.needs))) (.sl true 5 []) l hnd hlen;rw[hout]at hfk;generalize rG v a b=L at*
 have ht1:(encS ((L).map (·.1))).take (L).length=encS ((L).map (·.1)):=aD (by simp);have ht2:((L).map λx=>x.2.enc).take (L).length=(L).map λx=>x.2.enc:=aD (by simp);simp[e2,e3,e4,e5,e8];refine gQ [2,3] hfk (by simp;exactλa b h=>rJ h) ?_;simp;refine fU [4,5] ?_;simp only[IJ,IM,aC,aB,reduceIte,Nat.reduceEqDiff,Eo,xF,Blk.fz_arr,II,zJ]
 refine St.forget (F:=w_ Pg c _ _ _) (λT' M=>Abs.look T' 2=.c (.d (.rp a.enc 0))/\Abs.look T' 3=.c (.d (.rp b.enc 0))/\Abs.look T' 4=.c (.ptr 0 0)/\Abs.look T' 5=.c (.ptr 2 0)/\
  M 0=mg/\M 2=.box [.d (.sl false 1 (encI T)),.d (.sl false 2 (iK (o5 a.needs b.needs))),.d (.sl false 1 (encS (L.map (·.1)))),.d (.sl false 5 (L.map λx=>x.2.enc)),.d (.sl true 5 [])]/\∀i,6<=i->M i=.non) ?_ λT' M ⟨e2,e3,e4,e5,m0,m2,mn⟩=>?_
 ·refine⟨?_,?_,?_,?_,?_,?_,λi hi=>?_⟩
  ·simp only[iZ,xz,aB,reduceIte,Nat.reduceEqDiff,e2,gM,AC.fz_d]
  ·simp only[iZ,xz,aB,reduceIte,Nat.reduceEqDiff,e3,gM,AC.fz_d]
  ·simp only[iZ,xz,aB,reduceIte,Nat.reduceEqDiff,e4,gM,AC.fz_ptr]
  ·simp only[iZ,xz,aB,reduceIte,Nat.reduceEqDiff,e5,gM,AC.fz_ptr]
  ·simp[xF]
  ·simp[xF,ht1,ht2]
  ·have h1:i≠4:=by omega
   have h2:i≠5:=by omega
   have h3:i≠2:=by omega
   have h4:i≠3:=by omega
   have h5:hpOf [mg,Blk.dead,wC T (o5 a.needs b.needs),Blk.map (iO l)] i=.non:=wU (by simp;omega);simp[xF,h1,h2,h3,h4,h5]
 simp[hc5,e2,e3,e4,e5,m0,m2,mn];refine gN (λr5=>gN (λq5=>?_) (λq5=>?_)) (λr5=>?_)
 ·simp at r5;have hw:IntKind.i64.wrap ((a.fn.length:Int)+b.fn.length)=(a.fn.length:Int)+b.fn.length:=wI;have q5':0<a.fn.length+b.fn.length:=by
   rw[hw]at q5;simp at q5;omega
  refine gT (E5 a Ma.fn_len) ?_;simp[e2,e3,e4,e5,m0,m2,mn];refine gT (E5 b Mb.fn_len) ?_;simp[m0,m2,mn,e2,e3,e4,e5];refine gT (H.H2 q5') ?_;simp[m0,m2,mn,e2,e3,e4,e5];refine gT (H.H3 q5') ?_;simp[m0,m2,mn,e2,e3,e4,e5];refine gQ [2] (Pb (.sl false 1 (encI T)) (.sl false 2 (iK (o5 a.needs b.needs))) (.sl false 1 (encS ((L).map (·.1)))) (.sl false 5 ((L).map λx=>x.2.enc)) rfl (v (jD b).1 (jD a).1) (v (jD a).2 (jD b).2)) (by simp[m2]) ?_;simp[m0,m2,mn,e2,e3,e4,e5];refine⟨by decide,?_⟩;simp[r5,q5',e2,e3,e4,e5,m0,m2,mn]
 ·simp at r5;have hw:IntKind.i64.wrap ((a.fn.length:Int)+b.fn.length)=(a.fn.length:Int)+b.fn.length:=wI;have q5':¬0<a.fn.length+b.fn.length:=by
   rw[hw]at q5;simp at q5;omega
  simp[r5,q5',e2,e3,e4,e5,m0,m2,mn]
 ·simp at r5;simp[r5,e2,e3,e4,e5,m0,m2,mn]
theorem zEB{v:gp->gp->gp}{a b:gp}(H:zC v a b)(q4:iF a 4=0)(r4:iF (jG v a b) 4≠0):gY Pg 64 [.agg a.enc,.agg b.enc] (.agg (jG v a b).enc):=by
 have Ma:=H.Ma;have Mb:=H.Mb;have sa:=H.sa;have sb:=H.sb;refine Oy (by simp) λo c hN hp=>?_;have hL:(lD a.tags b.tags).length=6:=ET Ma.tags Mb.tags;unfold Jl;simp;refine gP [] Gc ?_;simp;refine cmp0 hp Ma Mb (by simp) λS0 e2 e3 e4 e5=>?_;have ha4:a.tags[4]?=some (iF a 4):=zl Ma.tags (by omega);have hc4:(lD a.tags b.tags)[4]?=some (iF (jG v a b) 4):=zl hL (by omega);have hc5:(lD a.tags b.tags)[5]?=some (iF (jG v a b) 5):=zl hL (by omega);have hE:(jG v a b).enc=[.sl false 1 (encI (lD a.tags b.tags)),.sl false 2 (iK (jG v a b).needs),.sl false 1 (encS (jG v a b).names),.sl false 5 ((jG v a b).fields.map gp.enc),.sl false 5 ((jG v a b).fn.map gp.enc)]:=gp.enc_eq _;have hneeds:(jG v a b).needs=tZ a b:=rfl;have hnames:(jG v a b).names=if iF (jG v a b) 4=0 then(rG v a b).map (·.1)else []:=rfl;have hfields:(jG v a b).fields=if iF (jG v a b) 4=0 then(rG v a b).map (·.2)else []:=rfl;have hfn:=Ph H;rw[hE,hneeds,hnames,hfields,hfn];unfold tZ;clear hE hneeds hnames hfields hfn;have h6:6<=(lD a.tags b.tags).length:=by omega
 have hnn:a.needs.length<=1073741824/\b.needs.length<=1073741824:=⟨by have:=sa.needs;omega,by have:=sb.needs;omega⟩
 have hfl:a.fn.length<=2/\b.fn.length<=2:=⟨by have:=Ma.fn_len;omega,by have:=Mb.fn_len;omega⟩
 generalize lD a.tags b.tags=T at*
 have htk:(encI T).take 6=encI T:=aD (by simp[hL]);simp;refine fU [1] ?_;simp[iZ,h6,htk,e2,e3,e4,e5];refine gT (Pd a.needs hnn.1) ?_;rw[aC q4,aB r4,aB r4];simp[iZ,ha4,q4,e2,e3,e4,e5];refine gT (zBz a.needs b.needs hnn.1 hnn.2) ?_;simp[iZ,hc4,h6,htk,r4,e2,e3,e4,e5];refine fU [] ?_;simp only[zJ]
 refine St.forget (F:=w_ Pg c _ _ _) (λT' M=>Abs.look T' 2=.c (.d (.rp a.enc 0))/\Abs.look T' 3=.c (.d (.rp b.enc 0))/\Abs.look T' 4=.c (.ptr 0 0)/\Abs.look T' 5=.c (.ptr 2 0)/\
  M 0=mg/\M 2=.box [.d (.sl false 1 (encI T)),.d (.sl false 2 (iK (o5 a.needs b.needs))),.d (.sl true 1 []),.d (.sl true 5 []),.d (.sl true 5 [])]/\∀i,3<=i->M i=.non) ?_ λT' M ⟨e2,e3,e4,e5,m0,m2,mn⟩=>?_
 ·refine⟨?_,?_,?_,?_,?_,?_,λi hi=>?_⟩
  ·simp only[iZ,xz,aB,reduceIte,Nat.reduceEqDiff,e2,gM,AC.fz_d]
  ·simp only[iZ,xz,aB,reduceIte,Nat.reduceEqDiff,e3,gM,AC.fz_d]
  ·simp only[iZ,xz,aB,reduceIte,Nat.reduceEqDiff,e4,gM,AC.fz_ptr]
  ·simp only[iZ,xz,aB,reduceIte,Nat.reduceEqDiff,e5,gM,AC.fz_ptr]
  ·simp[xF]
  ·simp[xF,h6,htk]
  ·have h1:i≠1:=by omega
   have h2:i≠2:=by omega
   have h5:hpOf [mg,Blk.arr 1 (List.map (λx=>List.map AC.d x) (encI T)),Blk.box [AC.msl 1 1 0 6,AC.d (D.sl true 2 []),AC.d (D.sl true 1 []),AC.d (D.sl true 5 []),AC.d (D.sl true 5 [])]] i=.non:=wU (by simp;omega);simp[xF,h1,h2,h5]
 simp[hc5,e2,e3,e4,e5,m0,m2,mn];refine gN (λr5=>gN (λq5=>?_) (λq5=>?_)) (λr5=>?_)
 ·simp at r5;have hw:IntKind.i64.wrap ((a.fn.length:Int)+b.fn.length)=(a.fn.length:Int)+b.fn.length:=wI;have q5':0<a.fn.length+b.fn.length:=by
   rw[hw]at q5;simp at q5;omega
  refine gT (E5 a Ma.fn_len) ?_;simp[e2,e3,e4,e5,m0,m2,mn];refine gT (E5 b Mb.fn_len) ?_;simp[m0,m2,mn,e2,e3,e4,e5];refine gT (H.H2 q5') ?_;simp[m0,m2,mn,e2,e3,e4,e5];refine gT (H.H3 q5') ?_;simp[m0,m2,mn,e2,e3,e4,e5];refine gQ [2] (Pb (.sl false 1 (encI T)) (.sl false 2 (iK (o5 a.needs b.needs))) (.sl true 1 []) (.sl true 5 []) rfl (v (jD b).1 (jD a).1) (v (jD a).2 (jD b).2)) (by simp[m2]) ?_;simp[m0,m2,mn,e2,e3,e4,e5];refine⟨by decide,?_⟩;simp[r5,q5',e2,e3,e4,e5,m0,m2,mn]
 ·simp at r5;have hw:IntKind.i64.wrap ((a.fn.length:Int)+b.fn.length)=(a.fn.length:Int)+b.fn.length:=wI;have q5':¬0<a.fn.length+b.fn.length:=by
   rw[hw]at q5;simp at q5;omega
  simp[r5,q5',e2,e3,e4,e5,m0,m2,mn]
 ·simp at r5;simp[r5,e2,e3,e4,e5,m0,m2,mn]
theorem zEC{v:gp->gp->gp}{a b:gp}(H:zC v a b)(q4:iF a 4≠0)(r4:iF (jG v a b) 4≠0):gY Pg 64 [.agg a.enc,.agg b.enc] (.agg (jG v a b).enc):=by
 have Ma:=H.Ma;have Mb:=H.Mb;have sa:=H.sa;have sb:=H.sb;refine Oy (by simp) λo c hN hp=>?_;have hL:(lD a.tags b.tags).length=6:=ET Ma.tags Mb.tags;unfold Jl;simp;refine gP [] Gc ?_;simp;refine cmp0 hp Ma Mb (by simp) λS0 e2 e3 e4 e5=>?_;have ha4:a.tags[4]?=some (iF a 4):=zl Ma.tags (by omega);have hc4:(lD a.tags b.tags)[4]?=some (iF (jG v a b) 4):=zl hL (by omega);have hc5:(lD a.tags b.tags)[5]?=some (iF (jG v a b) 5):=zl hL (by omega);have hE:(jG v a b).enc=[.sl false 1 (encI (lD a.tags b.tags)),.sl false 2 (iK (jG v a b).needs),.sl false 1 (encS (jG v a b).names),.sl false 5 ((jG v a b).fields.map gp.enc),.sl false 5 ((jG v a b).fn.map gp.enc)]:=gp.enc_eq _;have hneeds:(jG v a b).needs=tZ a b:=rfl;have hnames:(jG v a b).names=if iF (jG v a b) 4=0 then(rG v a b).map (·.1)else []:=rfl;have hfields:(jG v a b).fields=if iF (jG v a b) 4=0 then(rG v a b).map (·.2)else []:=rfl;have hfn:=Ph H;rw[hE,hneeds,hnames,hfields,hfn];unfold tZ;clear hE hneeds hnames hfields hfn;have h6:6<=(lD a.tags b.tags).length:=by omega
 have hnn:a.needs.length<=1073741824/\b.needs.length<=1073741824:=⟨by have:=sa.needs;omega,by have:=sb.needs;omega⟩
 have hfl:a.fn.length<=2/\b.fn.length<=2:=⟨by have:=Ma.fn_len;omega,by have:=Mb.fn_len;omega⟩
 generalize lD a.tags b.tags=T at*
 have htk:(encI T).take 6=encI T:=aD (by simp[hL]);simp;refine fU [1] ?_;simp[iZ,h6,htk,e2,e3,e4,e5];refine gT (Pd a.needs hnn.1) ?_;rw[aB q4,aB r4,aB r4];simp[iZ,ha4,hc4,h6,htk,r4,q4,e2,e3,e4,e5];refine fU [] ?_;simp only[zJ]
 refine St.forget (F:=w_ Pg c _ _ _) (λT' M=>Abs.look T' 2=.c (.d (.rp a.enc 0))/\Abs.look T' 3=.c (.d (.rp b.enc 0))/\Abs.look T' 4=.c (.ptr 0 0)/\Abs.look T' 5=.c (.ptr 2 0)/\
  M 0=mg/\M 2=.box [.d (.sl false 1 (encI T)),.d (.sl false 2 (iK a.needs)),.d (.sl true 1 []),.d (.sl true 5 []),.d (.sl true 5 [])]/\∀i,3<=i->M i=.non) ?_ λT' M ⟨e2,e3,e4,e5,m0,m2,mn⟩=>?_
 ·refine⟨?_,?_,?_,?_,?_,?_,λi hi=>?_⟩
  ·simp only[iZ,xz,aB,reduceIte,Nat.reduceEqDiff,e2,gM,AC.fz_d]
  ·simp only[iZ,xz,aB,reduceIte,Nat.reduceEqDiff,e3,gM,AC.fz_d]
  ·simp only[iZ,xz,aB,reduceIte,Nat.reduceEqDiff,e4,gM,AC.fz_ptr]
  ·simp only[iZ,xz,aB,reduceIte,Nat.reduceEqDiff,e5,gM,AC.fz_ptr]
  ·simp[xF]
  ·simp[xF,h6,htk]
  ·have h1:i≠1:=by omega
   have h2:i≠2:=by omega
   have h5:hpOf [mg,Blk.arr 1 (List.map (λx=>List.map AC.d x) (encI T)),Blk.box [AC.msl 1 1 0 6,AC.d (D.sl true 2 []),AC.d (D.sl true 1 []),AC.d (D.sl true 5 []),AC.d (D.sl true 5 [])]] i=.non:=wU (by simp;omega);simp[xF,h1,h2,h5]
 simp[hc5,e2,e3,e4,e5,m0,m2,mn];refine gN (λr5=>gN (λq5=>?_) (λq5=>?_)) (λr5=>?_)
 ·simp at r5;have hw:IntKind.i64.wrap ((a.fn.length:Int)+b.fn.length)=(a.fn.length:Int)+b.fn.length:=wI;have q5':0<a.fn.length+b.fn.length:=by
   rw[hw]at q5;simp at q5;omega
  refine gT (E5 a Ma.fn_len) ?_;simp[e2,e3,e4,e5,m0,m2,mn];refine gT (E5 b Mb.fn_len) ?_;simp[m0,m2,mn,e2,e3,e4,e5];refine gT (H.H2 q5') ?_;simp[m0,m2,mn,e2,e3,e4,e5];refine gT (H.H3 q5') ?_;simp[m0,m2,mn,e2,e3,e4,e5];refine gQ [2] (Pb (.sl false 1 (encI T)) (.sl false 2 (iK a.needs)) (.sl true 1 []) (.sl true 5 []) rfl (v (jD b).1 (jD a).1) (v (jD a).2 (jD b).2)) (by simp[m2]) ?_;simp[m0,m2,mn,e2,e3,e4,e5];refine⟨by decide,?_⟩;simp[r5,q5',e2,e3,e4,e5,m0,m2,mn]
 ·simp at r5;have hw:IntKind.i64.wrap ((a.fn.length:Int)+b.fn.length)=(a.fn.length:Int)+b.fn.length:=wI;have q5':¬0<a.fn.length+b.fn.length:=by
   rw[hw]at q5;simp at q5;omega
  simp[r5,q5',e2,e3,e4,e5,m0,m2,mn]
 ·simp at r5;simp[r5,e2,e3,e4,e5,m0,m2,mn]
theorem zwD{v:gp->gp->gp}{a b:gp}(H:zC v a b):gY Pg 64 [.agg a.enc,.agg b.enc] (.agg (jG v a b).enc):=by
 by_cases q4:iF a 4=0
 ·by_cases r4:iF (jG v a b) 4=0
  ·exact zEA H q4 r4
  ·exact zEB H q4 r4
 ·exact zEC H q4 (by rw[DN H.Ma H.Mb,aB q4];exact q4)
end Go.Gr.P
namespace Go.Gr.P
open Go.Abs Go.Proofs
theorem Jt:∀(n:Nat) {a b:gp},ow n a->ow n b->iY a=true->iY b=true->nG 536870912 a->nG 536870912 b->gY Pg 64 [.agg a.enc,.agg b.enc] (.agg (lc n a b).enc)
|0,a,b,ia,ib,ma,mb,sa,sb=>by
 have ea:a=idC:=ia;have eb:b=idC:=ib;have e:lc 0 a b=jG (lc 0) a b:=by rw[ea,eb];exact(JV 1).symm
 rw[e];refine zwD ⟨(uI _).1 ma,(uI _).1 mb,rfl,λk=>?_,J2 sa,J2 sb,λk hk=>?_,λh=>?_,λh=>?_⟩
 ·rw[ea,eb];exact⟨rfl,rfl⟩
 ·rw[ea]at hk;cases hk
 ·rw[ea,eb]at h;simp[idC,gp.fn]at h
 ·rw[ea,eb]at h;simp[idC,gp.fn]at h
|n+1,a,b,ia,ib,ma,mb,sa,sb=>by
 have Ma:=(uI _).1 ma;have Mb:=(uI _).1 mb;refine zwD ⟨Ma,Mb,JV n,λk=>⟨(Bt n _ (zk ia Ma.len k) (Ma.field k)).1,(Bt n _ (zk ib Mb.len k) (Mb.field k)).2⟩,J2 sa,J2 sb,λk _ _=>?_,λ_=>?_,λ_=>?_⟩
 ·exact Jt n (zk ia Ma.len k) (zk ib Mb.len k) (Ma.field k) (Mb.field k) (JZ sa Ma.len k) (JZ sb Mb.len k)
 ·exact Jt n (vH ib).1 (vH ia).1 Mb.pair.1 Ma.pair.1 (Bu sb).1 (Bu sa).1
 ·exact Jt n (vH ia).2 (vH ib).2 Ma.pair.2 Mb.pair.2 (Bu sa).2 (Bu sb).2
theorem zJi(n:Nat){a b:gp}(ia:ow n a)(ib:ow n b)(sa:nG 536870912 a)(sb:nG 536870912 b):gY Pg 37 [.agg a.enc,.agg b.enc] (.agg (J4 n a b).enc):=by
 refine zxl (by simp) λo c hN hp=>?_;unfold ZJ J4;simp;refine gT (P8 a) ?_;simp;apply gN<;>intro h1
 ·simp at h1;refine gT (P8 b) ?_;simp;apply gN<;>intro h2
  ·simp at h2;simp[h2,xm,gp.enc,gp.encs]
  ·simp at h2;refine gT (Jt n ia ib h1 h2 sa sb) ?_;simp[h1,h2]
 ·simp at h1;simp[h1,xm,gp.enc,gp.encs]
theorem DW(t:gU):gY Pg 97 [.agg t.enc] (.one (.bool (decide (t.kind=0)))):=by
 refine zgI (by simp) λo c hN hp=>?_;unfold ZG;simp
def iJ(t:gU):Int:=if t.kind<1\/6<t.kind then -1 else t.kind-1
theorem Cu(t:gU):gY Pg 170 [.agg t.enc] (.one (.int .i64 (iJ t))):=by
 refine zj4 (by simp) λo c hN hp=>?_;unfold Z4;simp;refine gN (λh=>gN (λh2=>?_) (λh2=>?_)) (λh=>?_)
 ·simp at h h2;unfold iJ;rw[aC (by omega)]
 ·simp at h h2;unfold iJ;rw[aB (by omega)];exact wI
 ·simp at h;unfold iJ;rw[aC (by omega)]
end Go.Gr.P
namespace Go.Gr.P
open Go.Abs Go.Proofs List
mutual
def lC:gU->gU->Bool
|.mk k n s l,.mk k' n' s' l'=>decide (k=k')&&(decide (n=n')&&(decide (s=s')&&qd l l'))
def qd:List gU->List gU->Bool
|[],[]=>true
|a::l,b::k=>lC a b&&qd l k
|_,_=>false
end
theorem FW:∀(a b:List gU),qd a b=lL lC a b
|[],[]=>by simp[qd,lL]
|[],_::_=>by simp[qd,lL]
|_::_,[]=>by simp[qd,lL]
|a::l,b::k=>by simp[qd,lL,FW l k]
theorem Md(a b:gU):lC a b=(decide (a.kind=b.kind)&&(decide (a.name=b.name)&&(decide (a.names=b.names)&&lL lC a.kids b.kids))):=by
 cases a;cases b;simp only[lC,FW];rfl
theorem ziC(a b:List gU)(g:FuncId)(caps:List D)(q:gU->gU->Bool)(H:∀x,x∈a->∀y,gY Pg g (.agg x.enc::.agg y.enc::caps.map .one) (.one (.bool (q x y)))):
  gY Pg 144 [.one (.sl false 4 (a.map gU.enc)),.one (.sl false 4 (b.map gU.enc)),.one (.fn (.func g) caps)] (.one (.bool (lL q a b))):=by
 refine zaX (by simp) λo c hN hp=>?_;have hl:a.length<=zah:=by have:=o.1;simp only[DV.ok,D.ok]at this;simpa using this.1
 unfold zah at hl;unfold Zn;simp;apply gN<;>intro h
 ·simp at h;exact Cv q (by omega)
 ·simp at h;refine fQ gz hp PQ [17] (λj:Nat=>j<=a.length/\lL q (a.drop j) (b.drop j)=lL q a b) (λj=>[.c (.d (.int .i64 j))]) (λ_=>[]) (λj=>a.length-j) 0 [] (by simp) (by simp[PQ]) λj ⟨h1,h2⟩=>?_;unfold Zm PQ;simp;apply gN<;>intro h
  ·have hj:j<a.length:=by simpa using h
   have hj':j<b.length:=by omega
   rw[aG hj,aG hj',lL]at h2;simp[aA hj,aA hj'];refine gT (H _ (aO hj) _) ?_;simp;apply gN<;>intro h
   ·simp at h;rw[h,Bool.false_and]at h2;exact h2.symm
   ·simp at h;rw[h,Bool.true_and]at h2;exact fG (j+1) [] ⟨by omega,h2⟩ (by omega) (by simp;exact wI)
  ·have hj:j=a.length:=by simp at h;omega
   subst hj;rw[aQ,bH (by omega)]at h2;rw[<-h2];try rfl
theorem zme(a b:gU)(ih:∀x,x∈a.kids->∀y,gY Pg 96 [.agg x.enc,.agg y.enc] (.one (.bool (lC x y)))):gY Pg 96 [.agg a.enc,.agg b.enc] (.one (.bool (lC a b))):=by
 have e:=Md a b;refine zjo (by simp) λo c hN hp=>?_;unfold ZZ;simp;refine gN (λh1=>gN (λh2=>?_) (λh2=>?_)) (λh1=>?_)
 ·refine gT (zlY _ _) ?_;generalize decide (a.names=b.names)=p3 at e⊢;simp;apply gN<;>intro h3
  ·refine gT (ziC _ _ 96 [] lC λx hx y=>ih x hx y) ?_;simp at h1 h2;simp[e,h1,h2,h3]
  ·simp at h3;simp[e,h3]
 ·simp at h2;simp[e,h2]
 ·simp at h1;simp[e,h1]
mutual
theorem Ju:∀(a b:gU),gY Pg 96 [.agg a.enc,.agg b.enc] (.one (.bool (lC a b)))
|.mk k n s l,b=>zme _ b λx hx y=>zis l x hx y
theorem zis:∀(l:List gU) (x:gU),x∈l->∀y,gY Pg 96 [.agg x.enc,.agg y.enc] (.one (.bool (lC x y)))
|c::l,x,h,y=>by
 cases aN.1 h with
 |inl e=>rw[e];exact Ju c y
 |inr e=>exact zis l x e y
end
def fi{α:Type}(q:α->Bool):Nat->List α->Int
|_,[]=> -1
|j,x::l=>if q x=true then(j:Int)else fi q (j+1) l
theorem Pi{α:Type}(q:α->Bool):∀(j:Nat) (l:List α),decide (0<=fi q j l)=l.any q
|_,[]=>by simp[fi]
| j,x::l=>by
 have ih:=Pi q (j+1) l;simp only[fi,any_cons];split
 ·rename_i h;rw[h,fB];simp
 ·rename_i h;rw[aM]at h;rw[h,eP];exact ih
theorem zmg(l:List gU)(g:FuncId)(caps:List D)(q:gU->Bool)(H:∀x,x∈l->gY Pg g (.agg x.enc::caps.map .one) (.one (.bool (q x)))):
  gY Pg 168 [.one (.sl false 4 (l.map gU.enc)),.one (.fn (.func g) caps)] (.one (.int .i64 (fi q 0 l))):=by
 refine zbD (by simp) λo c' hN hp=>?_;have hl:l.length<=zah:=by
  have:=o.1;simp only[DV.ok,D.ok]at this;simpa using this.1
 unfold zah at hl;unfold Zl;simp;refine fP gz hp (λj:Nat=>j<=l.length/\fi q j (l.drop j)=fi q 0 l) (λj=>[(8,.c (.d (.int .i64 j))),(7,.c (.d (.int .i64 l.length))),(0,.c (.d (.sl false 4 (l.map gU.enc)))),(1,.c (.d (.fn (.func g) caps)))]) (λ_=>[]) (λj=>l.length-j) 0 [] ⟨by simp,by simp⟩ (by simp) λj hj=>?_;unfold Zk;obtain⟨h1,h2⟩:=hj;simp;apply gN<;>intro h
 ·simp at h;have hj:j<l.length:=by omega
  simp[aA hj];rw[aG hj,fi]at h2;refine gT (H _ (aO hj)) ?_;simp;refine gN (λh'=>?_) (λh'=>?_)
  ·rw[aC h']at h2;exact h2
  ·rw[Bool.not_true]at h';rw[aB (by rw[h'];simp)]at h2;refine fG (j+1) [] ⟨by omega,h2⟩ (by omega) ?_;simp;exact wI
 ·have hj:j=l.length:=by simp at h;omega
  rw[<-h2,hj];simp[fi]
theorem zk5(t:gU)(n:Int):gY Pg 169 [.agg t.enc,.one (.rp [.int .i64 n] 0)] (.one (.bool (decide (iJ t=n)))):=by
 refine zgJ (by simp) λo c hN hp=>?_;unfold Z0;simp;refine gT (Cu t) ?_;simp;decide
theorem Bd{t:gU}(o:DV.ok (.agg t.enc)):t.names.length<=zah/\t.kids.length<=zah:=by
 rw[gU.enc_eq]at o;simp only[DV.ok,D.okL,D.ok,Cc,aV]at o;exact⟨o.2.2.1.1,o.2.2.2.1.1⟩
mutual
def si:gU->Nat
|.mk _ _ _ l=>min (mq l 1) 201
def mq:List gU->Nat->Nat
|[],n=>n
|t::ts,n=>if 200<n then n else mq ts (n+si t)
end
theorem Gf(t:gU):si t=min (mq t.kids 1) 201:=by cases t;rw[si];try rfl
theorem zn6(t:gU):si t<=201:=by rw[Gf];omega
theorem zlB{l:List gU}{n:Nat}(h:200<n):mq l n=n:=by
 cases l with
 |nil=>rw[mq]
 |cons d l=>rw[mq,aC h]
theorem zlC(t:gU)(ih:∀e,e∈t.kids->gY Pg 142 [.agg e.enc] (.one (.int .i64 (si e)))):gY Pg 142 [.agg t.enc] (.one (.int .i64 (si t))):=by
 refine zjn (by simp) λo c hN hp=>?_;have hf:=Bd o.1;unfold zah at hf;unfold ZY;simp;have hmm:∀n:Nat,wP false (n:Int) 201=((min n 201:Nat):Int):=λn=>by unfold wP;simp;split<;>omega
 refine fP gz hp (λx:Nat × Nat=>x.1<=t.kids.length/\x.2<=401/\mq (t.kids.drop x.1) x.2=mq t.kids 1) (λx=>[(9,.c (.d (.int .i64 x.1))),(3,.c (.d (.int .i64 x.2))),(7,.c (.d (.sl false 4 (t.kids.map gU.enc)))),(8,.c (.d (.int .i64 t.kids.length)))]) (λ_=>[]) (λx=>t.kids.length-x.1) (0,1) [] ⟨by simp,by simp,by simp⟩ (by simp) λ⟨j,n⟩ ⟨hx1,hx3,hx2⟩=>?_;unfold ZX;simp only at hx1 hx2 hx3;simp;apply gN<;>intro h
 ·have hj:j<t.kids.length:=by simpa using h
  rw[aG hj,mq]at hx2;simp[aA hj];apply gN<;>intro h
  ·simp at h;rw[aC (by omega)]at hx2;rw[Gf,<-hx2,hmm]
  ·simp at h;rw[aB (by omega)]at hx2;refine gT (ih _ (aO hj)) ?_;have hle:=zn6 t.kids[j];simp;refine fG (j+1,n+si t.kids[j]) [] ⟨by simp;omega,by simp only;omega,hx2⟩ (by simp;omega) ?_;simp;exact⟨wI,wI⟩
 ·have hj:j=t.kids.length:=by simp at h;omega
  subst hj;rw[aQ,mq]at hx2;rw[Gf,<-hx2,hmm]
mutual
theorem zi5:∀t:gU,gY Pg 142 [.agg t.enc] (.one (.int .i64 (si t)))
|.mk k n s l=>zlC (.mk k n s l) (λe h=>zh3 l e h)
theorem zh3:∀(l:List gU) (e:gU),e∈l->gY Pg 142 [.agg e.enc] (.one (.int .i64 (si e)))
|[],e,h=>by cases h
|d::l,e,h=>by
 cases h with
 |head=>exact zi5 d
 |tail _ h=>exact zh3 l e h
end
def hgt:Nat->gU->Nat
|0,_=>1
|n+1,t=>t.kids.foldl (λh k=>max h (hgt n k)) 0+1
theorem Pj{α:Type}(f:α->Nat):∀(l:List α) (a B:Nat),a<=B->(∀x,x∈l->f x<=B)->l.foldl (λh k=>max h (f k)) a<=B
|[],a,B,h,_=>h
|x::l,a,B,h,hl=>Pj f l (max a (f x)) B (by have:=hl x (by simp);omega) λy hy=>hl y (by simp[hy])
theorem zlD:∀(n:Nat) (t:gU),hgt n t<=n+1
|0,t=>aP _
|n+1,t=>by
 unfold hgt;have:=Pj (hgt n) t.kids 0 (n+1) (by omega) λx _=>zlD n x;omega
theorem zh4:∀(n:Nat) (t:gU),n<=100->gY Pg 165 [.agg t.enc,.one (.int .i64 (n+1:Nat))] (.one (.int .i64 (hgt n t)))
|0,t,hn=>by
 refine ZW (by simp) λo c hN hp=>?_;unfold PM;simp[hgt]
| n+1,t,hn=>by
 refine ZW (by simp) λo c hN hp=>?_;have hf:=Bd o.1;unfold zah at hf;unfold PM;have hne:¬((n:Int)+1+1=1):=by omega
 simp[hne];refine fP gz hp (λx:Nat × Nat=>x.1<=t.kids.length/\x.2<=n+1/\(t.kids.drop x.1).foldl (λh k=>max h (hgt n k)) x.2=t.kids.foldl (λh k=>max h (hgt n k)) 0) (λx=>[(13,.c (.d (.int .i64 x.1))),(5,.c (.d (.int .i64 x.2))),(1,.c (.d (.int .i64 (n+1+1:Nat)))),(11,.c (.d (.sl false 4 (t.kids.map gU.enc)))),(12,.c (.d (.int .i64 t.kids.length)))]) (λ_=>[]) (λx=>t.kids.length-x.1) (0,0) [] ⟨by simp,by simp,by simp⟩ (by simp) λ⟨j,r⟩ ⟨hx1,hx3,hx2⟩=>?_;unfold ZV;simp only at hx1 hx2 hx3;simp;apply gN<;>intro h
 ·have hj:j<t.kids.length:=by simpa using h
  rw[aG hj,foldl_cons]at hx2;simp[aA hj];have hw:IntKind.i64.wrap ((n:Int)+1)=((n+1:Nat):Int):=by rw[wI];omega
  rw[hw];refine gT (zh4 n t.kids[j] (by omega)) ?_;have hle:=zlD n t.kids[j];have hmm:wP true (r:Int) (hgt n t.kids[j])=((max r (hgt n t.kids[j]):Nat):Int):=by unfold wP;simp;split<;>omega
  simp;refine fG (j+1,max r (hgt n t.kids[j])) [] ⟨by simp;omega,by simp only;omega,hx2⟩ (by simp;omega) ?_;simp[hmm];exact wI
 ·have hj:j=t.kids.length:=by simp at h;omega
  subst hj;rw[aQ,foldl_nil]at hx2;simp only[hgt,<-hx2];simp;rw[wI]
theorem FV(t:gU):gY Pg 141 [.agg t.enc] (.one (.int .i64 (hgt 16 t))):=by
 refine zhB (by simp) λo c hN hp=>?_;unfold ZU;simp;refine gT (zh4 16 t (by omega)) ?_;simp
end Go.Gr.P
