/- Texts of ours, joined and written short by a program of ours. -/
import Derived.Test.YtlfjlokfciejnaaGreatDoorCJ18
import Derived.Test.YtlfjlokfciejnaaGreatDoorCSrt
import Derived.Test.YtlfjlokfciejnaaGreatDoorCLayK
set_option maxRecDepth 20000
set_option maxHeartbeats 4000000
set_option linter.unusedVariables false
set_option linter.unusedSimpArgs false
namespace Go.Gr.P
open Go.Abs Go.Proofs Go.RowKit Go.Maps Go.Sort Go.Shelf
theorem zIU(m:Nat):AnyZ.SortsIn Tryz.prog Tryz.sorted150_ren Fence.wide m:=
⟨λblk off cap ss W hH hblk hsz=>callsIn_wide.2 (AnyM.slices_Sort_string Tryz.sort174 blk off cap ss W hH hblk hsz),
 λp cap W=>callsIn_wide.2 (AnyM.slices_Sort_string_none Tryz.sort174 p cap W)⟩
theorem zz8{H:Type}(Bm b nn:Nat)(D0:DataW H)(R:Value->Option (DataW H × List MemPlace))(w:World)(hB:Bm<w.heap.size)(hm:w.cell? ⟨Bm,0,none⟩=some (.map (some b)))(hown:w.ownsMap Tryz.prog 9 R b nn D0)(hmax:Maps.size D0<=maxLen)(hbytes:Maps.size D0*16<=140737488355328):
  Calls Tryz.prog 150 #[.func (.func 175) #[] #[.pointer (some ⟨Bm,0,none⟩)]] w λe w'=>∃(v:Value) (ss:List (List UInt8)),e=.returned v/\ss.Perm (strKeys D0)/\
   w'.ownsRow w.heap.size 9 1 v ss.length ((ss.mergeSort (λx y=>decide (x<=y))).map encStr)/\(v=.slice none 0 0↔ss=[])/\Below w.heap.size w w':=by
 refine(callsIn_wide (n:=5)).1 ?_
 have hseq:SeqGives Fence.wide 2 Tryz.prog 175 #[.pointer (some ⟨Bm,0,none⟩)] encStr (λss=>ss.Perm (strKeys D0)) (Maps.size D0) w:=
  AnyZ.keys_gives (ρ:=Tryz.keys151_ren) {Tryz.keys151 with} Fence.wide _ trivial rfl (by omega) Bm b nn D0 _ hB hm hown
 exact AnyZ.sorted_in Tryz.sorted150 Fence.wide 5 trivial trivial trivial trivial rfl (by omega) (zIU _) (enters_of Tryz.func174 (by kernel_rfl) rfl) 175 #[.pointer (some ⟨Bm,0,none⟩)] trivial (enters_of Tryz.func175 (by kernel_rfl) rfl) _ _ hmax hbytes _ hseq
end Go.Gr.P
namespace Go.Gr.P
open Go.Abs Go.Proofs Go.RowKit List
def iQ(l:List (fI × gy)):List (D × AV):=l.map λx=>(.str x.1,.ag (x.2.enc.map .d))
@[simp] theorem zJ2(f:Nat->Nat)(l:List (fI × gy)):(iQ l).map (λe=>(e.1,AV.ren f e.2))=iQ l:=by simp[iQ]
theorem rA{n:Nat}{l:List (fI × gy)}{a:D}{b:AV}(h:(a,b)∈iQ l):AV.lt n b=true:=by
 simp only[iQ,aa]at h;obtain⟨x,_,e⟩:=h;cases e;simp
theorem K3{f:Nat->Bool}{l:List (fI × gy)}(a:D)(b:AV)(h:(a,b)∈iQ l):AV.lv f b=true:=by
 simp only[iQ,aa]at h;obtain⟨x,_,e⟩:=h;cases e;simp
@[simp] theorem zAg(l:List (fI × gy)):(iQ l).map (·.1)=(l.map (·.1)).map .str:=by simp[iQ]
theorem zAh(l:List (fI × gy)):MCall Pg 151 [.c (.map 0)] [.map (iQ l)] (.c (.fn (.func 175) [.ptr 1 0])) [.map (iQ l),.box [.map 0]]:=by
 refine zqe ⟨by simp,by simp,by simp,by simp,by simp,by simp[live],by simp[live];exact K3⟩ λts hts ok hb c hN hp=>?_;obtain⟨t,rfl⟩:=mF hts;unfold zpg;simp;exact fQ [0,2] [1]
theorem zFZ{h:PH}{ρ:RM}{es:List (D × AV)}{w:World}{g:FuncId}{argsC:List Value}(K:HRel h ρ (hpOf [.map es,.box [.map 0]]) w.heap)(r:zai h ρ [.c (.fn (.func g) [.ptr 1 0])] argsC):
  ∃(p0:Nat × Nat) (B:Nat),argsC=[.func (.func g) #[] #[.pointer (some ⟨B,0,none⟩)]]/\B<w.heap.size/\w.cell? ⟨B,0,none⟩=some (.map (some p0.1))/\zaI h ρ p0 (.map es) w.heap:=by
 match argsC,r with
 | [v],r=>
  simp only[zai,RepV,RepC,and_true]at r;obtain⟨vs,e1,e2,e3⟩:=r
  match vs,e2,e3 with
  | [u],_,e3=>
   simp only[iJ,RepC,and_true]at e3;obtain⟨_,p1,q1,q2⟩:=e3;have hb:=K.own 1 p1 q1;simp[hpOf,zaI]at hb;obtain⟨us,⟨T,b1⟩,b2,b3⟩:=hb
   match us,b2,b3 with
   | [x],_,b3=>
    simp only[iJ,RepC,and_true]at b3;obtain⟨_,p0,c1,c2⟩:=b3;have h0:=K.own 0 p0 c1;refine⟨p0,p1.1,by rw[e1,q2],?_,?_,by simpa[hpOf]using h0⟩
    ·rcases aW p1.1 w.heap.size with g|g
     ·exact g
     ·rw[aj g]at b1;cases b1
    ·simp[World.cell?,b1,c2]
theorem zxK(l:List (fI × gy))(hn:(l.map (·.1)).Nodup)(hl:l.length<=1073741824):
  MCall Pg 150 [.c (.fn (.func 175) [.ptr 1 0])] [.map (iQ l),.box [.map 0]] (.c (.d (.sl false 1 (encS (zco (l.map (·.1))))))) [.map (iQ l),.box [.map 0]]:=by
 have hlen:(zco (l.map (·.1))).length=l.length:=by simp[zco]
 have hm:(140737488355328:Nat)<=maxLen:=by decide
 have e:encS (zco (l.map (·.1)))=((zco (l.map (·.1))).map D.str).map λd=>[d]:=by simp[encS]
 rw[e];refine MCall.row (by decide+kernel) (Ba (by simp)) (by simp[live];exact K3) (by simp[hlen,zah];omega) λh ρ w argsC K r=>?_;obtain⟨p0,B,rfl,hB,hc,hmap⟩:=zFZ K r;obtain⟨D0,o1,o2,o3⟩:=zJj (P:=Tryz.prog) (k:=9) Tryz.underlying9 (zAg l) hn (by simpa using hl) hmap;have o2':Maps.size D0=l.length:=by rw[o2];simp
 refine(zz8 B p0.1 _ D0 zrv w hB hc o1 (by omega) (by omega)).mono λe w' q=>?_;obtain⟨v,ss,q1,q2,q3,_,q5⟩:=q;have q6:ss.Perm ((l.map (·.1)).map λs=>s.data.toList):=q2.trans o3;have q7:ss.mergeSort (λx y=>decide (x<=y))=((l.map (·.1)).map λs=>s.data.toList).mergeSort λx y=>decide (x<=y):=mergeSort_of_perm q6;obtain⟨ms,ck,_,g2,_⟩:=hmap;obtain⟨_,hsz⟩:=zvn (P:=Tryz.prog) (k:=9) (zAg l) g2;have hss:ss.length=l.length:=by simpa using q6.length_eq
 refine⟨v,_,9,q1,λh=>ziN λx hx=>?_,by simpa[hss,hlen,q7]using q3,q5⟩;have hx':=(mergeSort_perm _ _).mem_iff.1 hx;obtain⟨s,hs,rfl⟩:=aa.1 hx';rw[cz];exact hsz s hs
end Go.Gr.P
namespace Go.Gr.P
open Go.Abs Go.Proofs List
theorem H8{k:fI}:∀{l:List (fI × gy)} (i:Nat),k∈l.map (·.1)->∃j,kN 1 (.str k) (iQ l) i=some (some (j,.ag ((sH l k).enc.map .d)))
|[],i,h=>by simp at h
| x::l,i,h=>by
 by_cases e:k=x.1
 ·exact⟨i,by simp[iQ,sH,e]⟩
 ·have:k∈l.map (·.1):=by
   simp only[map_cons,aN]at h;exact h.resolve_left e
  obtain⟨j,hj⟩:=H8 (i+1) this;simp only[iQ]at hj;exact⟨j,by simp[iQ,sH,e,hj]⟩
theorem zEJ(a b f:D)(l:List (fI × gy))(hn:(l.map (·.1)).Nodup)(hl:l.length<=1073741824):
  MCall Pg 105 [.c (.ptr 0 0),.c (.map 1)] [.box [.d a,.d b,.d (.sl true 1 []),.d (.sl true 5 []),.d f],.map (iQ l)] (.tup [])
   [.box [.d a,.d b,.msl 1 2 0 (kT l (zco (l.map (·.1)))).length,.msl 5 3 0 (kT l (zco (l.map (·.1)))).length,.d f],.map (iQ l),
    .arr 1 ((encS ((kT l (zco (l.map (·.1)))).map (·.1))).map (·.map .d)),.arr 5 (((kT l (zco (l.map (·.1)))).map (·.2.enc)).map (·.map .d))]:=by
 refine ztc ⟨by simp,by simp,by simp,by simp,by simp,by simp,by simp[live];exact K3⟩ λts hts ok hb c hN hp=>?_;obtain⟨t0,t1,rfl⟩:=GJ hts;unfold QZ;simp;refine fo [.c 0 2,.c 0 3] ?_;simp;refine gY [1] (zAh l) (by simp;exactλa b h=>rA h) ?_;simp;refine gY [1,6] (zxK l hn hl) (by simp;exactλa b h=>rA h) ?_;simp;have hks:(zco (l.map (·.1))).length<=1073741824:=by simpa[zco]using hl
 have hmem:∀k,k∈zco (l.map (·.1))->k∈l.map (·.1):=λk hk=>Gl.1 hk;generalize zco (l.map (·.1))=ks at*
 refine fV iC hp El [11] (λj:Nat=>j<=ks.length) (λj=>[.c (.d (.int .i64 j))])
  (λj=>[.box [.d a,.d b,.msl 1 2 0 (kT l (ks.take j)).length,.msl 5 3 0 (kT l (ks.take j)).length,.d f],.map (iQ l),.arr 1 ((encS ((kT l (ks.take j)).map (·.1))).map (·.map .d)),.arr 5 (((kT l (ks.take j)).map (·.2.enc)).map (·.map .d)),.pin t0 0,.pin t1 1])
  (λj=>ks.length-j) 0 [0,1,4,5,2,3] (by simp) (by simp[El,kT,encS];exactλa b h=>rA h) λj h1=>?_
 unfold QY El;simp;apply gT<;>intro h
 ·have hj:j<ks.length:=by simpa using h
  simp[aA hj];obtain⟨i,hi⟩:=H8 (l:=l) 0 (hmem _ (aP hj));simp[hi];refine gp (yP _) ?_;have hs:=ZA (l:=l) hj;have hlen:=ZB l (ks.take j);rw[bH]at hlen;generalize sH l ks[j]=d at hs⊢;simp;apply gT<;>intro h
  ·simp at h;rw[h]at hs;simp at hs;refine⟨by omega,by omega,by decide,?_⟩;refine fJ (j+1) [0,1,7,8,4,5] (by omega) (by omega) ?_;simp[hs];refine⟨wI,λa b h=>rA h,?_,?_⟩
   ·rw[aD (by simp)]<;>simp[encS]
   ·rw[aD (by simp)]<;>simp[Function.comp_def]
  ·simp at h;rw[h]at hs;simp at hs;refine fJ (j+1) [0,1,2,3,4,5] (by omega) (by omega) ?_;simp[hs];exact⟨wI,λa b h=>rA h⟩
 ·have hj:j=ks.length:=by simp at h;omega
  subst hj;simp;exact fQ [0,1,2,3] [4,5]
end Go.Gr.P
namespace Go.Gr.P
open Go.Abs
section
variable {v:gy->gy->gy} {a b:gy}
end
section
variable {a b c:gy}
end
end Go.Gr.P
namespace Go.Gr.P
open Go.Abs Go.Proofs List
theorem Qi(l:List (fI × Int))(hl:l.length<=1073741824):gu Pg 103 [.one (.sl false 2 (iF l))] (.one (.sl false 2 (iF l))):=by
 refine zro (by simp) λo c hN hp=>?_;unfold KW;cases l with
 |nil=>
  simp[iF];refine⟨fo [] ?_,fo [] ?_⟩<;>simp
 |cons x l=>
  simp[iF];refine⟨by simp at hl;omega,?_⟩;refine fo [] ?_;simp;rw[aD (by simp)]
theorem K4(k:fI)(d:gy):∀(l:List (fI × gy)) (i:Nat),(∃j w,kN 1 (.str k) (iQ l) i=some (some (i+j,w))/\(iQ l).set j (.str k,.ag (d.enc.map .d))=iQ (kQ l k d))\/
 (kN 1 (.str k) (iQ l) i=some none/\iQ l++[(.str k,.ag (d.enc.map .d))]=iQ (kQ l k d))
|[],i=>.inr ⟨rfl,rfl⟩
| x::l,i=>by
 by_cases e:k=x.1
 ·refine .inl ⟨0,.ag (x.2.enc.map .d),?_,?_⟩
  ·simp[iQ,e]
  ·simp[iQ,kQ,e]
 ·have ih:=K4 k d l (i+1);simp only[iQ]at ih;rcases ih with⟨j,w,h1,h2⟩|⟨h1,h2⟩
  ·refine .inl ⟨j+1,w,?_,?_⟩
   ·simp[iQ,e,h1];omega
   ·simp[iQ,kQ,e,h2]
  ·refine .inr ⟨?_,?_⟩
   ·simp[iQ,e,h1]
   ·simpa[iQ,kQ,e]using h2
theorem En{k:fI}:∀{l:List (fI × gy)} (i:Nat),k∉l.map (·.1)->kN 1 (.str k) (iQ l) i=some none
|[],i,_=>rfl
|x::l,i,h=>by
 simp only[map_cons,aN,dU]at h;have ih:=En (l:=l) (i+1) h.2;simp only[iQ]at ih;simp[iQ,h.1,ih]
theorem cmp0{c:Ctx}(hp:c.pure){a b:gy}(Ma:May a)(Mb:May b){Q:Exit->St->Prop}{S:St}{g}
  (h0:iM [0,1,2] S ((23,.c (.d (.int .i64 0)))::(21,.c (.d (.sl false 1 (encI a.tags))))::(22,.c (.d (.int .i64 a.tags.length)))::vw a b) [jq,.arr 1 ((encI lL).map (·.map .d)),.box [.msl 1 1 0 6,.d (.sl true 2 []),.d (.sl true 1 []),.d (.sl true 5 []),.d (.sl true 5 [])]])
  (hQ:∀T,Abs.look T 2=.c (.d (.rp a.enc 0))->Abs.look T 3=.c (.d (.rp b.enc 0))->Abs.look T 4=.c (.ptr 0 0)->Abs.look T 5=.c (.ptr 2 0)->
   Q (.exit 0) ⟨T,hpOf [jq,.arr 1 ((encI (kG a.tags b.tags)).map (·.map .d)),.box [.msl 1 1 0 6,.d (.sl true 2 []),.d (.sl true 1 []),.d (.sl true 5 []),.d (.sl true 5 [])]],3⟩):lU Pg c QQ Q g S:=by
 have hL:(kG a.tags b.tags).length=6:=D8 Ma.tags Mb.tags
 refine fU iC hp (λj:Nat=>j<=6) (λj=>(23,.c (.d (.int .i64 j)))::(21,.c (.d (.sl false 1 (encI a.tags))))::(22,.c (.d (.int .i64 a.tags.length)))::vw a b)
  (λj=>[jq,.arr 1 ((encI (nR (kG a.tags b.tags) j)).map (·.map .d)),.box [.msl 1 1 0 6,.d (.sl true 2 []),.d (.sl true 1 []),.d (.sl true 5 []),.d (.sl true 5 [])]])
  (λj=>6-j) 0 [0,1,2] (by simp) h0 λj h1=>?_
 unfold QQ;simp;apply gT<;>intro h
 ·have hj:j<6:=by have:=Ma.tags;simp at h;omega
  have hja:j<a.tags.length:=by rw[Ma.tags];exact hj
  have hjb:j<b.tags.length:=by rw[Mb.tags];exact hj
  have hup:(nR (kG a.tags b.tags) j).length=6:=by simp[nR,hL];omega
  have hju:j<(nR (kG a.tags b.tags) j).length:=by omega
  have hset:∀x,x=(kG a.tags b.tags)[j]'(by omega)->(encI (nR (kG a.tags b.tags) j)).set j [.int .i64 x]=encI (nR (kG a.tags b.tags) (j+1)):=λx e=>by
   rw[e,<-Jk,Ph hL hj]
  have hval:(kG a.tags b.tags)[j]'(by omega)=if a.tags[j]=0 then b.tags[j]else a.tags[j]:=by simp[kG]
  simp[aA hja,aA hjb,aA hju];apply gT<;>intro h
  ·simp at h;refine⟨by omega,?_⟩;refine fJ (j+1) [0,1,2] (by omega) (by omega) ?_;simp;refine⟨wI,?_⟩;rw[<-hset b.tags[j] (by rw[hval,aC h])];simp[fA]
  ·simp at h;refine⟨by omega,?_⟩;refine fJ (j+1) [0,1,2] (by omega) (by omega) ?_;simp;refine⟨wI,?_⟩;rw[<-hset a.tags[j] (by rw[hval,aB h])];simp[fA]
 ·have hj:j=6:=by have:=Ma.tags;simp at h;omega
  subst hj;have hup:nR (kG a.tags b.tags) 6=kG a.tags b.tags:=by
   unfold nR;rw[aD (by omega)];simp
  rw[hup];exact hQ _ (by simp) (by simp) (by simp) (by simp)
theorem Qj{c:Ctx}(hp:c.pure){a b:gy}(Ma:May a)(hal:a.names.length<=1073741824)(Tg:List Int)(N:List (fI × Int)){Q:Exit->St->Prop}{S:St}{g}
  (h0:iM [0,1,2,3] S ((65,.c (.d (.int .i64 0)))::(63,.c (.d (.sl false 1 (encS a.names))))::(64,.c (.d (.int .i64 a.names.length)))::(8,.c (.map 3))::vw a b) [jq,.dead,vv Tg N,.map []])
  (hQ:∀T,Abs.look T 2=.c (.d (.rp a.enc 0))->Abs.look T 3=.c (.d (.rp b.enc 0))->Abs.look T 4=.c (.ptr 0 0)->Abs.look T 5=.c (.ptr 2 0)->Abs.look T 8=.c (.map 3)->
   Q (.exit 2) ⟨T,hpOf [jq,.dead,vv Tg N,.map (iQ (a.names.zip a.fields))],4⟩):lU Pg c QR Q g S:=by
 refine fU iC hp (λj:Nat=>j<=a.names.length) (λj=>(65,.c (.d (.int .i64 j)))::(63,.c (.d (.sl false 1 (encS a.names))))::(64,.c (.d (.int .i64 a.names.length)))::(8,.c (.map 3))::vw a b)
  (λj=>[jq,.dead,vv Tg N,.map (iQ ((a.names.zip a.fields).take j))])
  (λj=>a.names.length-j) 0 [0,1,2,3] (by simp) (by simpa[iQ]using h0) λj h1=>?_
 unfold QR;simp;apply gT<;>intro h
 ·simp at h;have hj:j<a.names.length:=by omega
  have hj':j<a.fields.length:=by have:=Ma.len;omega
  simp[aA hj,aA hj'];have hz:j<(a.names.zip a.fields).length:=by simp;omega
  have hk:a.names[j]∉((a.names.zip a.fields).take j).map (·.1):=by
   rw[zz1 Ma.len];exact Ee (rT Ma.names) hj
  simp[En 0 hk];refine fJ (j+1) [0,1,2,3] (by omega) (by omega) ?_;simp;refine⟨wI,?_,λa b h=>rA h⟩;rw[aJ hz];simp[iQ]
 ·have hj:j=a.names.length:=by simp at h;omega
  subst hj;have hz:(a.names.zip a.fields).take a.names.length=a.names.zip a.fields:=aD (by simp;omega);rw[hz];exact hQ _ (by simp) (by simp) (by simp) (by simp) (by simp)
theorem Qk{c:Ctx}(hp:c.pure){v:gy->gy->gy}{a b:gy}(Ma:May a)(Mb:May b)(hbl:b.names.length<=1073741824)(hu:∀k,v idC (jy b k)=jy b k)
  (H1:∀k,k∈a.names->k∈b.names->gu Pg 64 [.agg (jy a k).enc,.agg (jy b k).enc] (.agg (v (jy a k) (jy b k)).enc))
  (Tg:List Int) (N:List (fI × Int)) {Q:Exit->St->Prop} {S:St} {g}
  (h0:iM [0,1,2,3] S ((81,.c (.d (.int .i64 0)))::(79,.c (.d (.sl false 1 (encS b.names))))::(80,.c (.d (.int .i64 b.names.length)))::(8,.c (.map 3))::vw a b) [jq,.dead,vv Tg N,.map (iQ (a.names.zip a.fields))])
  (hQ:∀T l,Gq v a b b.names.length l->Abs.look T 2=.c (.d (.rp a.enc 0))->Abs.look T 3=.c (.d (.rp b.enc 0))->Abs.look T 4=.c (.ptr 0 0)->Abs.look T 5=.c (.ptr 2 0)->Abs.look T 8=.c (.map 3)->
   Q (.exit 4) ⟨T,hpOf [jq,.dead,vv Tg N,.map (iQ l)],4⟩):lU Pg c QS Q g S:=by
 refine fU iC hp (λx:Nat × List (fI × gy)=>x.1<=b.names.length/\Gq v a b x.1 x.2) (λx=>(81,.c (.d (.int .i64 x.1)))::(79,.c (.d (.sl false 1 (encS b.names))))::(80,.c (.d (.int .i64 b.names.length)))::(8,.c (.map 3))::vw a b)
  (λx=>[jq,.dead,vv Tg N,.map (iQ x.2)])
  (λx=>b.names.length-x.1) (0,a.names.zip a.fields) [0,1,2,3] ⟨by simp,zHO Ma⟩ h0 λ⟨j,l⟩ ⟨h1,hI⟩=>?_
 unfold QS;simp only at h1 hI;simp;apply gT<;>intro h
 ·have hj:j<b.names.length:=by simpa using h
  have hj':j<b.fields.length:=by have:=Mb.len;omega
  have hf:jy b b.names[j]=b.fields[j]:=ZE hj hj' (rT Mb.names);have hcon:b.names[j]∈l.map (·.1)↔b.names[j]∈a.names:=by
   rw[hI.1];simp only[aM,bB];exact⟨λh=>h.elim id λh=>absurd h.1 (Ee (rT Mb.names) hj),.inl⟩
  have hnext:=λd hd=>zHP (d:=d) Ma Mb hj hI hd;rw[hf]at hnext;simp[aA hj,aA hj'];by_cases hk:b.names[j]∈l.map (·.1)
  ·have hka:=hcon.1 hk;have hat:sH l b.names[j]=jy a b.names[j]:=by
    rw[hI.2 _ hk,aB (Ee (rT Mb.names) hj)]
   obtain⟨i',hi⟩:=H8 (l:=l) 0 hk;rcases K4 b.names[j] b.fields[j] l 0 with⟨i,w,m1,m2⟩|⟨m1,m2⟩
   rotate_left
   ·rw[hi]at m1;cases m1
   rw[hi]at m1;simp only[af,bV]at m1;obtain⟨rfl,rfl⟩:=m1;rw[hat]at hi;simp[hi,m2];have hk2:b.names[j]∈(kQ l b.names[j] b.fields[j]).map (·.1):=by rw[Jj,aC hk];exact hk
   have hcall:=H1 _ hka (aP hj);rw[hf]at hcall;refine gp hcall ?_;simp;rcases K4 b.names[j] (v (jy a b.names[j]) b.fields[j]) (kQ l b.names[j] b.fields[j]) 0 with⟨i2,w,m3,m4⟩|⟨m3,m4⟩
   rotate_left
   ·obtain⟨i3,hi3⟩:=H8 (l:=kQ l b.names[j] b.fields[j]) 0 hk2;rw[hi3]at m3;cases m3
   simp[m2,m3,m4,ZQ];refine⟨by decide,?_⟩;refine fJ (j+1,kQ l b.names[j] (v (jy a b.names[j]) b.fields[j])) [0,1,2,3] ⟨by simp;omega,hnext _ rfl⟩ (by simp;omega) ?_;simp;exact⟨wI,λa b h=>rA h⟩
  ·have hka:b.names[j]∉a.names:=λh=>hk (hcon.2 h);rcases K4 b.names[j] b.fields[j] l 0 with⟨i,w,m1,m2⟩|⟨m1,m2⟩
   ·rw[En 0 hk]at m1;cases m1
   simp[m1,m2];have hz0:jy a b.names[j]=idC:=yJ hka;have hu':=hu b.names[j];rw[hf]at hu';refine fJ (j+1,kQ l b.names[j] b.fields[j]) [0,1,2,3] ⟨by simp;omega,hnext _ (by rw[hz0,hu'])⟩ (by simp;omega) ?_;simp;exact⟨wI,λa b h=>rA h⟩
 ·have hj:j=b.names.length:=by simp at h;omega
  subst hj;exact hQ _ l hI (by simp) (by simp) (by simp) (by simp) (by simp)
@[simp] theorem zGa:encS []=[]:=rfl
structure zI (v:gy->gy->gy) (a b:gy):Prop where
 Ma:May a
 Mb:May b
 v0:v idC idC=idC
 hu:∀k,v (jy a k) idC=jy a k/\v idC (jy b k)=jy b k
 sa:qz 536870912 a
 sb:qz 536870912 b
 H1:∀k,k∈a.names->k∈b.names->gu Pg 64 [.agg (jy a k).enc,.agg (jy b k).enc] (.agg (v (jy a k) (jy b k)).enc)
 H2:0<a.fn.length+b.fn.length->gu Pg 64 [.agg (il b).1.enc,.agg (il a).1.enc] (.agg (v (il b).1 (il a).1).enc)
 H3:0<a.fn.length+b.fn.length->gu Pg 64 [.agg (il a).2.enc,.agg (il b).2.enc] (.agg (v (il a).2 (il b).2).enc)
theorem Ql{v:gy->gy->gy}{a b:gy}(H:zI v a b):(iZ v a b).fn=if iE (iZ v a b) 5=0/\0<a.fn.length+b.fn.length then lM (v (il b).1 (il a).1) (v (il a).2 (il b).2)else []:=by
 have h0:(iZ v a b).fn=if iE (iZ v a b) 5=0 then lM (v (il b).1 (il a).1) (v (il a).2 (il b).2)else []:=rfl;rw[h0];by_cases q:iE (iZ v a b) 5=0
 ·by_cases r:0<a.fn.length+b.fn.length
  ·rw[aC q,aC ⟨q,r⟩]
  ·have ea:a.fn=[]:=aT.1 (by omega);have eb:b.fn=[]:=aT.1 (by omega);have pa:il a=(idC,idC):=by unfold il;rw[ea]
   have pb:il b=(idC,idC):=by unfold il;rw[eb]
   rw[aC q,aB (λh=>r h.2),pa,pb];unfold lM;simp[H.v0,Gn]
 ·rw[aB q,aB (λh=>q h.1)]
theorem zEA{v:gy->gy->gy}{a b:gy}(H:zI v a b)(q4:iE a 4=0)(r4:iE (iZ v a b) 4=0):gu Pg 64 [.agg a.enc,.agg b.enc] (.agg (iZ v a b).enc):=by
 have Ma:=H.Ma;have Mb:=H.Mb;have sa:=H.sa;have sb:=H.sb;refine QT (by simp) λo c hN hp=>?_;have hL:(kG a.tags b.tags).length=6:=D8 Ma.tags Mb.tags;unfold KU;simp;refine gU [] H7 ?_;simp;refine cmp0 hp Ma Mb (by simp) λS0 e2 e3 e4 e5=>?_;have ha4:a.tags[4]?=some (iE a 4):=wh Ma.tags (by omega);have hc4:(kG a.tags b.tags)[4]?=some (iE (iZ v a b) 4):=wh hL (by omega);have hc5:(kG a.tags b.tags)[5]?=some (iE (iZ v a b) 5):=wh hL (by omega);have hE:(iZ v a b).enc=[.sl false 1 (encI (kG a.tags b.tags)),.sl false 2 (iF (iZ v a b).needs),.sl false 1 (encS (iZ v a b).names),.sl false 5 ((iZ v a b).fields.map gy.enc),.sl false 5 ((iZ v a b).fn.map gy.enc)]:=gy.enc_eq _;have hneeds:(iZ v a b).needs=qQ a b:=rfl;have hnames:(iZ v a b).names=if iE (iZ v a b) 4=0 then(pK v a b).map (·.1)else []:=rfl;have hfields:(iZ v a b).fields=if iE (iZ v a b) 4=0 then(pK v a b).map (·.2)else []:=rfl;have hfn:=Ql H;rw[hE,hneeds,hnames,hfields,hfn];unfold qQ;clear hE hneeds hnames hfields hfn;have h6:6<=(kG a.tags b.tags).length:=by omega
 have hnn:a.needs.length<=1073741824/\b.needs.length<=1073741824:=⟨by have:=sa.needs;omega,by have:=sb.needs;omega⟩
 have hfl:a.fn.length<=2/\b.fn.length<=2:=⟨by have:=Ma.fn_len;omega,by have:=Mb.fn_len;omega⟩
 generalize kG a.tags b.tags=T at*
 have htk:(encI T).take 6=encI T:=aD (by simp[hL]);simp;refine fe [1] ?_;simp[iT,h6,htk,e2,e3,e4,e5];refine gp (Qi a.needs hnn.1) ?_;rw[aC q4,aC r4,aC r4];simp[iT,ha4,q4,e2,e3,e4,e5];refine gp (zBz a.needs b.needs hnn.1 hnn.2) ?_;simp[iT,hc4,h6,htk,r4,e2,e3,e4,e5];have hal:a.names.length<=1073741824:=by have:=sa.fields;have:=Ma.len;omega
 have hbl:b.names.length<=1073741824:=by have:=sb.fields;have:=Mb.len;omega
 refine Qj hp (a:=a) (b:=b) Ma hal T (oM a.needs b.needs) (by simp[iT,e2,e3,e4,e5,h6,htk]) λS1 e2 e3 e4 e5 e8=>?_;simp[e2,e3,e4,e5,e8];refine Qk hp Ma Mb hbl (λk=>(H.hu k).2) H.H1 T (oM a.needs b.needs) (by simp[e2,e3,e4,e5,e8];exactλa b h=>rA h) λS2 l hI e2 e3 e4 e5 e8=>?_;have hk1:=hI.1;rw[bG]at hk1;have hnd:(l.map (·.1)).Nodup:=by rw[hk1];exact ZI (rT Ma.names) (rT Mb.names)
 have hlen:l.length<=1073741824:=by
  have e1:l.length=(l.map (·.1)).length:=by simp
  have e2:=bQ (λk=> !decide (k∈a.names)) b.names;have:=sa.fields;have:=sb.fields;have:=Ma.len;have:=Mb.len;rw[e1,hk1,aX];omega
 have hsort:zco (l.map (·.1))=w9 a b:=by rw[hk1];try rfl
 have hout:kT l (zco (l.map (·.1)))=pK v a b:=by
  rw[hsort];unfold kT pK busy;congr 1;refine bg λk hk=>?_;have hk':=Pe.1 hk;have hkl:k∈l.map (·.1):=by
   rw[hk1];simp only[aM,bB];by_cases q:k∈a.names
   ·exact .inl q
   ·exact .inr ⟨hk'.resolve_left q,by simp[q]⟩
  rw[hI.2 k hkl,bG];split
  ·rfl
  ·rename_i q;have:jy b k=idC:=yJ q;rw[this,(H.hu k).1]
 have hfk:=zEJ (.sl false 1 (encI T)) (.sl false 2 (iF (oM a.needs b.needs))) (.sl true 5 []) l hnd hlen;rw[hout]at hfk;generalize pK v a b=L at*
 have ht1:(encS ((L).map (·.1))).take (L).length=encS ((L).map (·.1)):=aD (by simp);have ht2:((L).map λx=>x.2.enc).take (L).length=(L).map λx=>x.2.enc:=aD (by simp);simp[e2,e3,e4,e5,e8];refine gY [2,3] hfk (by simp;exactλa b h=>rA h) ?_;simp;refine fe [4,5] ?_;simp only[BZ,AQ,aC,aB,reduceIte,Nat.reduceEqDiff,AL,qH,Blk.fz_arr,BX,wQ]
 refine St.forget (F:=w_ Pg c _ _ _) (λT' M=>Abs.look T' 2=.c (.d (.rp a.enc 0))/\Abs.look T' 3=.c (.d (.rp b.enc 0))/\Abs.look T' 4=.c (.ptr 0 0)/\Abs.look T' 5=.c (.ptr 2 0)/\
  M 0=jq/\M 2=.box [.d (.sl false 1 (encI T)),.d (.sl false 2 (iF (oM a.needs b.needs))),.d (.sl false 1 (encS (L.map (·.1)))),.d (.sl false 5 (L.map λx=>x.2.enc)),.d (.sl true 5 [])]/\∀i,6<=i->M i=.non) ?_ λT' M ⟨e2,e3,e4,e5,m0,m2,mn⟩=>?_
 ·refine⟨?_,?_,?_,?_,?_,?_,λi hi=>?_⟩
  ·simp only[iT,sN,aB,reduceIte,Nat.reduceEqDiff,e2,gQ,AC.fz_d]
  ·simp only[iT,sN,aB,reduceIte,Nat.reduceEqDiff,e3,gQ,AC.fz_d]
  ·simp only[iT,sN,aB,reduceIte,Nat.reduceEqDiff,e4,gQ,AC.fz_ptr]
  ·simp only[iT,sN,aB,reduceIte,Nat.reduceEqDiff,e5,gQ,AC.fz_ptr]
  ·simp[qH]
  ·simp[qH,ht1,ht2]
  ·have h1:i≠4:=by omega
   have h2:i≠5:=by omega
   have h3:i≠2:=by omega
   have h4:i≠3:=by omega
   have h5:hpOf [jq,Blk.dead,vv T (oM a.needs b.needs),Blk.map (iQ l)] i=.non:=rW (by simp;omega);simp[qH,h1,h2,h3,h4,h5]
 simp[hc5,e2,e3,e4,e5,m0,m2,mn];refine gT (λr5=>gT (λq5=>?_) (λq5=>?_)) (λr5=>?_)
 ·simp at r5;have hw:IntKind.i64.wrap ((a.fn.length:Int)+b.fn.length)=(a.fn.length:Int)+b.fn.length:=wI;have q5':0<a.fn.length+b.fn.length:=by
   rw[hw]at q5;simp at q5;omega
  refine gp (Em a Ma.fn_len) ?_;simp[e2,e3,e4,e5,m0,m2,mn];refine gp (Em b Mb.fn_len) ?_;simp[m0,m2,mn,e2,e3,e4,e5];refine gp (H.H2 q5') ?_;simp[m0,m2,mn,e2,e3,e4,e5];refine gp (H.H3 q5') ?_;simp[m0,m2,mn,e2,e3,e4,e5];refine gY [2] (Qh (.sl false 1 (encI T)) (.sl false 2 (iF (oM a.needs b.needs))) (.sl false 1 (encS ((L).map (·.1)))) (.sl false 5 ((L).map λx=>x.2.enc)) rfl (v (il b).1 (il a).1) (v (il a).2 (il b).2)) (by simp[m2]) ?_;simp[m0,m2,mn,e2,e3,e4,e5];refine⟨by decide,?_⟩;simp[r5,q5',e2,e3,e4,e5,m0,m2,mn]
 ·simp at r5;have hw:IntKind.i64.wrap ((a.fn.length:Int)+b.fn.length)=(a.fn.length:Int)+b.fn.length:=wI;have q5':¬0<a.fn.length+b.fn.length:=by
   rw[hw]at q5;simp at q5;omega
  simp[r5,q5',e2,e3,e4,e5,m0,m2,mn]
 ·simp at r5;simp[r5,e2,e3,e4,e5,m0,m2,mn]
theorem zEB{v:gy->gy->gy}{a b:gy}(H:zI v a b)(q4:iE a 4=0)(r4:iE (iZ v a b) 4≠0):gu Pg 64 [.agg a.enc,.agg b.enc] (.agg (iZ v a b).enc):=by
 have Ma:=H.Ma;have Mb:=H.Mb;have sa:=H.sa;have sb:=H.sb;refine QT (by simp) λo c hN hp=>?_;have hL:(kG a.tags b.tags).length=6:=D8 Ma.tags Mb.tags;unfold KU;simp;refine gU [] H7 ?_;simp;refine cmp0 hp Ma Mb (by simp) λS0 e2 e3 e4 e5=>?_;have ha4:a.tags[4]?=some (iE a 4):=wh Ma.tags (by omega);have hc4:(kG a.tags b.tags)[4]?=some (iE (iZ v a b) 4):=wh hL (by omega);have hc5:(kG a.tags b.tags)[5]?=some (iE (iZ v a b) 5):=wh hL (by omega);have hE:(iZ v a b).enc=[.sl false 1 (encI (kG a.tags b.tags)),.sl false 2 (iF (iZ v a b).needs),.sl false 1 (encS (iZ v a b).names),.sl false 5 ((iZ v a b).fields.map gy.enc),.sl false 5 ((iZ v a b).fn.map gy.enc)]:=gy.enc_eq _;have hneeds:(iZ v a b).needs=qQ a b:=rfl;have hnames:(iZ v a b).names=if iE (iZ v a b) 4=0 then(pK v a b).map (·.1)else []:=rfl;have hfields:(iZ v a b).fields=if iE (iZ v a b) 4=0 then(pK v a b).map (·.2)else []:=rfl;have hfn:=Ql H;rw[hE,hneeds,hnames,hfields,hfn];unfold qQ;clear hE hneeds hnames hfields hfn;have h6:6<=(kG a.tags b.tags).length:=by omega
 have hnn:a.needs.length<=1073741824/\b.needs.length<=1073741824:=⟨by have:=sa.needs;omega,by have:=sb.needs;omega⟩
 have hfl:a.fn.length<=2/\b.fn.length<=2:=⟨by have:=Ma.fn_len;omega,by have:=Mb.fn_len;omega⟩
 generalize kG a.tags b.tags=T at*
 have htk:(encI T).take 6=encI T:=aD (by simp[hL]);simp;refine fe [1] ?_;simp[iT,h6,htk,e2,e3,e4,e5];refine gp (Qi a.needs hnn.1) ?_;rw[aC q4,aB r4,aB r4];simp[iT,ha4,q4,e2,e3,e4,e5];refine gp (zBz a.needs b.needs hnn.1 hnn.2) ?_;simp[iT,hc4,h6,htk,r4,e2,e3,e4,e5];refine fe [] ?_;simp only[wQ]
 refine St.forget (F:=w_ Pg c _ _ _) (λT' M=>Abs.look T' 2=.c (.d (.rp a.enc 0))/\Abs.look T' 3=.c (.d (.rp b.enc 0))/\Abs.look T' 4=.c (.ptr 0 0)/\Abs.look T' 5=.c (.ptr 2 0)/\
  M 0=jq/\M 2=.box [.d (.sl false 1 (encI T)),.d (.sl false 2 (iF (oM a.needs b.needs))),.d (.sl true 1 []),.d (.sl true 5 []),.d (.sl true 5 [])]/\∀i,3<=i->M i=.non) ?_ λT' M ⟨e2,e3,e4,e5,m0,m2,mn⟩=>?_
 ·refine⟨?_,?_,?_,?_,?_,?_,λi hi=>?_⟩
  ·simp only[iT,sN,aB,reduceIte,Nat.reduceEqDiff,e2,gQ,AC.fz_d]
  ·simp only[iT,sN,aB,reduceIte,Nat.reduceEqDiff,e3,gQ,AC.fz_d]
  ·simp only[iT,sN,aB,reduceIte,Nat.reduceEqDiff,e4,gQ,AC.fz_ptr]
  ·simp only[iT,sN,aB,reduceIte,Nat.reduceEqDiff,e5,gQ,AC.fz_ptr]
  ·simp[qH]
  ·simp[qH,h6,htk]
  ·have h1:i≠1:=by omega
   have h2:i≠2:=by omega
   have h5:hpOf [jq,Blk.arr 1 (List.map (λx=>List.map AC.d x) (encI T)),Blk.box [AC.msl 1 1 0 6,AC.d (D.sl true 2 []),AC.d (D.sl true 1 []),AC.d (D.sl true 5 []),AC.d (D.sl true 5 [])]] i=.non:=rW (by simp;omega);simp[qH,h1,h2,h5]
 simp[hc5,e2,e3,e4,e5,m0,m2,mn];refine gT (λr5=>gT (λq5=>?_) (λq5=>?_)) (λr5=>?_)
 ·simp at r5;have hw:IntKind.i64.wrap ((a.fn.length:Int)+b.fn.length)=(a.fn.length:Int)+b.fn.length:=wI;have q5':0<a.fn.length+b.fn.length:=by
   rw[hw]at q5;simp at q5;omega
  refine gp (Em a Ma.fn_len) ?_;simp[e2,e3,e4,e5,m0,m2,mn];refine gp (Em b Mb.fn_len) ?_;simp[m0,m2,mn,e2,e3,e4,e5];refine gp (H.H2 q5') ?_;simp[m0,m2,mn,e2,e3,e4,e5];refine gp (H.H3 q5') ?_;simp[m0,m2,mn,e2,e3,e4,e5];refine gY [2] (Qh (.sl false 1 (encI T)) (.sl false 2 (iF (oM a.needs b.needs))) (.sl true 1 []) (.sl true 5 []) rfl (v (il b).1 (il a).1) (v (il a).2 (il b).2)) (by simp[m2]) ?_;simp[m0,m2,mn,e2,e3,e4,e5];refine⟨by decide,?_⟩;simp[r5,q5',e2,e3,e4,e5,m0,m2,mn]
 ·simp at r5;have hw:IntKind.i64.wrap ((a.fn.length:Int)+b.fn.length)=(a.fn.length:Int)+b.fn.length:=wI;have q5':¬0<a.fn.length+b.fn.length:=by
   rw[hw]at q5;simp at q5;omega
  simp[r5,q5',e2,e3,e4,e5,m0,m2,mn]
 ·simp at r5;simp[r5,e2,e3,e4,e5,m0,m2,mn]
theorem zEC{v:gy->gy->gy}{a b:gy}(H:zI v a b)(q4:iE a 4≠0)(r4:iE (iZ v a b) 4≠0):gu Pg 64 [.agg a.enc,.agg b.enc] (.agg (iZ v a b).enc):=by
 have Ma:=H.Ma;have Mb:=H.Mb;have sa:=H.sa;have sb:=H.sb;refine QT (by simp) λo c hN hp=>?_;have hL:(kG a.tags b.tags).length=6:=D8 Ma.tags Mb.tags;unfold KU;simp;refine gU [] H7 ?_;simp;refine cmp0 hp Ma Mb (by simp) λS0 e2 e3 e4 e5=>?_;have ha4:a.tags[4]?=some (iE a 4):=wh Ma.tags (by omega);have hc4:(kG a.tags b.tags)[4]?=some (iE (iZ v a b) 4):=wh hL (by omega);have hc5:(kG a.tags b.tags)[5]?=some (iE (iZ v a b) 5):=wh hL (by omega);have hE:(iZ v a b).enc=[.sl false 1 (encI (kG a.tags b.tags)),.sl false 2 (iF (iZ v a b).needs),.sl false 1 (encS (iZ v a b).names),.sl false 5 ((iZ v a b).fields.map gy.enc),.sl false 5 ((iZ v a b).fn.map gy.enc)]:=gy.enc_eq _;have hneeds:(iZ v a b).needs=qQ a b:=rfl;have hnames:(iZ v a b).names=if iE (iZ v a b) 4=0 then(pK v a b).map (·.1)else []:=rfl;have hfields:(iZ v a b).fields=if iE (iZ v a b) 4=0 then(pK v a b).map (·.2)else []:=rfl;have hfn:=Ql H;rw[hE,hneeds,hnames,hfields,hfn];unfold qQ;clear hE hneeds hnames hfields hfn;have h6:6<=(kG a.tags b.tags).length:=by omega
 have hnn:a.needs.length<=1073741824/\b.needs.length<=1073741824:=⟨by have:=sa.needs;omega,by have:=sb.needs;omega⟩
 have hfl:a.fn.length<=2/\b.fn.length<=2:=⟨by have:=Ma.fn_len;omega,by have:=Mb.fn_len;omega⟩
 generalize kG a.tags b.tags=T at*
 have htk:(encI T).take 6=encI T:=aD (by simp[hL]);simp;refine fe [1] ?_;simp[iT,h6,htk,e2,e3,e4,e5];refine gp (Qi a.needs hnn.1) ?_;rw[aB q4,aB r4,aB r4];simp[iT,ha4,hc4,h6,htk,r4,q4,e2,e3,e4,e5];refine fe [] ?_;simp only[wQ]
 refine St.forget (F:=w_ Pg c _ _ _) (λT' M=>Abs.look T' 2=.c (.d (.rp a.enc 0))/\Abs.look T' 3=.c (.d (.rp b.enc 0))/\Abs.look T' 4=.c (.ptr 0 0)/\Abs.look T' 5=.c (.ptr 2 0)/\
  M 0=jq/\M 2=.box [.d (.sl false 1 (encI T)),.d (.sl false 2 (iF a.needs)),.d (.sl true 1 []),.d (.sl true 5 []),.d (.sl true 5 [])]/\∀i,3<=i->M i=.non) ?_ λT' M ⟨e2,e3,e4,e5,m0,m2,mn⟩=>?_
 ·refine⟨?_,?_,?_,?_,?_,?_,λi hi=>?_⟩
  ·simp only[iT,sN,aB,reduceIte,Nat.reduceEqDiff,e2,gQ,AC.fz_d]
  ·simp only[iT,sN,aB,reduceIte,Nat.reduceEqDiff,e3,gQ,AC.fz_d]
  ·simp only[iT,sN,aB,reduceIte,Nat.reduceEqDiff,e4,gQ,AC.fz_ptr]
  ·simp only[iT,sN,aB,reduceIte,Nat.reduceEqDiff,e5,gQ,AC.fz_ptr]
  ·simp[qH]
  ·simp[qH,h6,htk]
  ·have h1:i≠1:=by omega
   have h2:i≠2:=by omega
   have h5:hpOf [jq,Blk.arr 1 (List.map (λx=>List.map AC.d x) (encI T)),Blk.box [AC.msl 1 1 0 6,AC.d (D.sl true 2 []),AC.d (D.sl true 1 []),AC.d (D.sl true 5 []),AC.d (D.sl true 5 [])]] i=.non:=rW (by simp;omega);simp[qH,h1,h2,h5]
 simp[hc5,e2,e3,e4,e5,m0,m2,mn];refine gT (λr5=>gT (λq5=>?_) (λq5=>?_)) (λr5=>?_)
 ·simp at r5;have hw:IntKind.i64.wrap ((a.fn.length:Int)+b.fn.length)=(a.fn.length:Int)+b.fn.length:=wI;have q5':0<a.fn.length+b.fn.length:=by
   rw[hw]at q5;simp at q5;omega
  refine gp (Em a Ma.fn_len) ?_;simp[e2,e3,e4,e5,m0,m2,mn];refine gp (Em b Mb.fn_len) ?_;simp[m0,m2,mn,e2,e3,e4,e5];refine gp (H.H2 q5') ?_;simp[m0,m2,mn,e2,e3,e4,e5];refine gp (H.H3 q5') ?_;simp[m0,m2,mn,e2,e3,e4,e5];refine gY [2] (Qh (.sl false 1 (encI T)) (.sl false 2 (iF a.needs)) (.sl true 1 []) (.sl true 5 []) rfl (v (il b).1 (il a).1) (v (il a).2 (il b).2)) (by simp[m2]) ?_;simp[m0,m2,mn,e2,e3,e4,e5];refine⟨by decide,?_⟩;simp[r5,q5',e2,e3,e4,e5,m0,m2,mn]
 ·simp at r5;have hw:IntKind.i64.wrap ((a.fn.length:Int)+b.fn.length)=(a.fn.length:Int)+b.fn.length:=wI;have q5':¬0<a.fn.length+b.fn.length:=by
   rw[hw]at q5;simp at q5;omega
  simp[r5,q5',e2,e3,e4,e5,m0,m2,mn]
 ·simp at r5;simp[r5,e2,e3,e4,e5,m0,m2,mn]
theorem zwD{v:gy->gy->gy}{a b:gy}(H:zI v a b):gu Pg 64 [.agg a.enc,.agg b.enc] (.agg (iZ v a b).enc):=by
 by_cases q4:iE a 4=0
 ·by_cases r4:iE (iZ v a b) 4=0
  ·exact zEA H q4 r4
  ·exact zEB H q4 r4
 ·exact zEC H q4 (by rw[D9 H.Ma H.Mb,aB q4];exact q4)
end Go.Gr.P
namespace Go.Gr.P
open Go.Abs Go.Proofs
theorem K5:∀(n:Nat) {a b:gy},oz n a->oz n b->iU a=true->iU b=true->lw 536870912 a->lw 536870912 b->gu Pg 64 [.agg a.enc,.agg b.enc] (.agg (mg n a b).enc)
|0,a,b,ia,ib,ma,mb,sa,sb=>by
 have ea:a=idC:=ia;have eb:b=idC:=ib;have e:mg 0 a b=iZ (mg 0) a b:=by rw[ea,eb];exact(Ed 1).symm
 rw[e];refine zwD ⟨(sI _).1 ma,(sI _).1 mb,rfl,λk=>?_,CE sa,CE sb,λk hk=>?_,λh=>?_,λh=>?_⟩
 ·rw[ea,eb];exact⟨rfl,rfl⟩
 ·rw[ea]at hk;cases hk
 ·rw[ea,eb]at h;simp[idC,gy.fn]at h
 ·rw[ea,eb]at h;simp[idC,gy.fn]at h
|n+1,a,b,ia,ib,ma,mb,sa,sb=>by
 have Ma:=(sI _).1 ma;have Mb:=(sI _).1 mb;refine zwD ⟨Ma,Mb,Ed n,λk=>⟨(CB n _ (yK ia Ma.len k) (Ma.field k)).1,(CB n _ (yK ib Mb.len k) (Mb.field k)).2⟩,CE sa,CE sb,λk _ _=>?_,λ_=>?_,λ_=>?_⟩
 ·exact K5 n (yK ia Ma.len k) (yK ib Mb.len k) (Ma.field k) (Mb.field k) (Ef sa Ma.len k) (Ef sb Mb.len k)
 ·exact K5 n (sS ib).1 (sS ia).1 Mb.pair.1 Ma.pair.1 (yL sb).1 (yL sa).1
 ·exact K5 n (sS ia).2 (sS ib).2 Ma.pair.2 Mb.pair.2 (yL sa).2 (yL sb).2
theorem zJi(n:Nat){a b:gy}(ia:oz n a)(ib:oz n b)(sa:lw 536870912 a)(sb:lw 536870912 b):gu Pg 37 [.agg a.enc,.agg b.enc] (.agg (CF n a b).enc):=by
 refine zxl (by simp) λo c hN hp=>?_;unfold zsG CF;simp;refine gp (Qf a) ?_;simp;apply gT<;>intro h1
 ·simp at h1;refine gp (Qf b) ?_;simp;apply gT<;>intro h2
  ·simp at h2;simp[h2,ul,gy.enc,gy.encs]
  ·simp at h2;refine gp (K5 n ia ib h1 h2 sa sb) ?_;simp[h1,h2]
 ·simp at h1;simp[h1,ul,gy.enc,gy.encs]
theorem Df(t:gq):gu Pg 97 [.agg t.enc] (.one (.bool (decide (t.kind=0)))):=by
 refine zgI (by simp) λo c hN hp=>?_;unfold zcN;simp
def iN(t:gq):Int:=if t.kind<1\/6<t.kind then -1 else t.kind-1
theorem DD(t:gq):gu Pg 170 [.agg t.enc] (.one (.int .i64 (iN t))):=by
 refine zj4 (by simp) λo c hN hp=>?_;unfold zfA;simp;refine gT (λh=>gT (λh2=>?_) (λh2=>?_)) (λh=>?_)
 ·simp at h h2;unfold iN;rw[aC (by omega)]
 ·simp at h h2;unfold iN;rw[aB (by omega)];exact wI
 ·simp at h;unfold iN;rw[aC (by omega)]
end Go.Gr.P
namespace Go.Gr.P
open Go.Abs Go.Proofs List
mutual
def ky:gq->gq->Bool
|.mk k n s l,.mk k' n' s' l'=>decide (k=k')&&(decide (n=n')&&(decide (s=s')&&qX l l'))
def qX:List gq->List gq->Bool
|[],[]=>true
|a::l,b::k=>ky a b&&qX l k
|_,_=>false
end
theorem Fe:∀(a b:List gq),qX a b=lJ ky a b
|[],[]=>by simp[qX,lJ]
|[],_::_=>by simp[qX,lJ]
|_::_,[]=>by simp[qX,lJ]
|a::l,b::k=>by simp[qX,lJ,Fe l k]
theorem NG(a b:gq):ky a b=(decide (a.kind=b.kind)&&(decide (a.name=b.name)&&(decide (a.names=b.names)&&lJ ky a.kids b.kids))):=by
 cases a;cases b;simp only[ky,Fe];rfl
theorem ziC(a b:List gq)(g:FuncId)(caps:List D)(q:gq->gq->Bool)(H:∀x,x∈a->∀y,gu Pg g (.agg x.enc::.agg y.enc::caps.map .one) (.one (.bool (q x y)))):
  gu Pg 144 [.one (.sl false 4 (a.map gq.enc)),.one (.sl false 4 (b.map gq.enc)),.one (.fn (.func g) caps)] (.one (.bool (lJ q a b))):=by
 refine zaX (by simp) λo c hN hp=>?_;have hl:a.length<=zah:=by have:=o.1;simp only[DV.ok,D.ok]at this;simpa using this.1
 unfold zah at hl;unfold zaC;simp;apply gT<;>intro h
 ·simp at h;exact DF q (by omega)
 ·simp at h;refine fV iC hp Q7 [17] (λj:Nat=>j<=a.length/\lJ q (a.drop j) (b.drop j)=lJ q a b) (λj=>[.c (.d (.int .i64 j))]) (λ_=>[]) (λj=>a.length-j) 0 [] (by simp) (by simp[Q7]) λj ⟨h1,h2⟩=>?_;unfold zaz Q7;simp;apply gT<;>intro h
  ·have hj:j<a.length:=by simpa using h
   have hj':j<b.length:=by omega
   rw[aF hj,aF hj',lJ]at h2;simp[aA hj,aA hj'];refine gp (H _ (aP hj) _) ?_;simp;apply gT<;>intro h
   ·simp at h;rw[h,Bool.false_and]at h2;exact h2.symm
   ·simp at h;rw[h,Bool.true_and]at h2;exact fJ (j+1) [] ⟨by omega,h2⟩ (by omega) (by simp;exact wI)
  ·have hj:j=a.length:=by simp at h;omega
   subst hj;rw[aO,bF (by omega)]at h2;rw[<-h2];try rfl
theorem zme(a b:gq)(ih:∀x,x∈a.kids->∀y,gu Pg 96 [.agg x.enc,.agg y.enc] (.one (.bool (ky x y)))):gu Pg 96 [.agg a.enc,.agg b.enc] (.one (.bool (ky a b))):=by
 have e:=NG a b;refine zjo (by simp) λo c hN hp=>?_;unfold ze8;simp;refine gT (λh1=>gT (λh2=>?_) (λh2=>?_)) (λh1=>?_)
 ·refine gp (zlY _ _) ?_;generalize decide (a.names=b.names)=p3 at e⊢;simp;apply gT<;>intro h3
  ·refine gp (ziC _ _ 96 [] ky λx hx y=>ih x hx y) ?_;simp at h1 h2;simp[e,h1,h2,h3]
  ·simp at h3;simp[e,h3]
 ·simp at h2;simp[e,h2]
 ·simp at h1;simp[e,h1]
mutual
theorem K6:∀(a b:gq),gu Pg 96 [.agg a.enc,.agg b.enc] (.one (.bool (ky a b)))
|.mk k n s l,b=>zme _ b λx hx y=>zis l x hx y
theorem zis:∀(l:List gq) (x:gq),x∈l->∀y,gu Pg 96 [.agg x.enc,.agg y.enc] (.one (.bool (ky x y)))
|c::l,x,h,y=>by
 cases aN.1 h with
 |inl e=>rw[e];exact K6 c y
 |inr e=>exact zis l x e y
end
def fi{α:Type}(q:α->Bool):Nat->List α->Int
|_,[]=> -1
|j,x::l=>if q x=true then(j:Int)else fi q (j+1) l
theorem Qm{α:Type}(q:α->Bool):∀(j:Nat) (l:List α),decide (0<=fi q j l)=l.any q
|_,[]=>by simp[fi]
| j,x::l=>by
 have ih:=Qm q (j+1) l;simp only[fi,any_cons];split
 ·rename_i h;rw[h,eF];simp
 ·rename_i h;rw[aL]at h;rw[h,d9];exact ih
theorem zmg(l:List gq)(g:FuncId)(caps:List D)(q:gq->Bool)(H:∀x,x∈l->gu Pg g (.agg x.enc::caps.map .one) (.one (.bool (q x)))):
  gu Pg 168 [.one (.sl false 4 (l.map gq.enc)),.one (.fn (.func g) caps)] (.one (.int .i64 (fi q 0 l))):=by
 refine zbD (by simp) λo c' hN hp=>?_;have hl:l.length<=zah:=by
  have:=o.1;simp only[DV.ok,D.ok]at this;simpa using this.1
 unfold zah at hl;unfold zaU;simp;refine fU iC hp (λj:Nat=>j<=l.length/\fi q j (l.drop j)=fi q 0 l) (λj=>[(8,.c (.d (.int .i64 j))),(7,.c (.d (.int .i64 l.length))),(0,.c (.d (.sl false 4 (l.map gq.enc)))),(1,.c (.d (.fn (.func g) caps)))]) (λ_=>[]) (λj=>l.length-j) 0 [] ⟨by simp,by simp⟩ (by simp) λj hj=>?_;unfold zaO;obtain⟨h1,h2⟩:=hj;simp;apply gT<;>intro h
 ·simp at h;have hj:j<l.length:=by omega
  simp[aA hj];rw[aF hj,fi]at h2;refine gp (H _ (aP hj)) ?_;simp;refine gT (λh'=>?_) (λh'=>?_)
  ·rw[aC h']at h2;exact h2
  ·rw[Bool.not_true]at h';rw[aB (by rw[h'];simp)]at h2;refine fJ (j+1) [] ⟨by omega,h2⟩ (by omega) ?_;simp;exact wI
 ·have hj:j=l.length:=by simp at h;omega
  rw[<-h2,hj];simp[fi]
theorem zk5(t:gq)(n:Int):gu Pg 169 [.agg t.enc,.one (.rp [.int .i64 n] 0)] (.one (.bool (decide (iN t=n)))):=by
 refine zgJ (by simp) λo c hN hp=>?_;unfold zcP;simp;refine gp (DD t) ?_;simp;decide
theorem Bj{t:gq}(o:DV.ok (.agg t.enc)):t.names.length<=zah/\t.kids.length<=zah:=by
 rw[gq.enc_eq]at o;simp only[DV.ok,D.okL,D.ok,Bc,aU]at o;exact⟨o.2.2.1.1,o.2.2.2.1.1⟩
mutual
def sW:gq->Nat
|.mk _ _ _ l=>min (mr l 1) 201
def mr:List gq->Nat->Nat
|[],n=>n
|t::ts,n=>if 200<n then n else mr ts (n+sW t)
end
theorem H9(t:gq):sW t=min (mr t.kids 1) 201:=by cases t;rw[sW];try rfl
theorem zn6(t:gq):sW t<=201:=by rw[H9];omega
theorem zlB{l:List gq}{n:Nat}(h:200<n):mr l n=n:=by
 cases l with
 |nil=>rw[mr]
 |cons d l=>rw[mr,aC h]
theorem zlC(t:gq)(ih:∀e,e∈t.kids->gu Pg 142 [.agg e.enc] (.one (.int .i64 (sW e)))):gu Pg 142 [.agg t.enc] (.one (.int .i64 (sW t))):=by
 refine zjn (by simp) λo c hN hp=>?_;have hf:=Bj o.1;unfold zah at hf;unfold ze7;simp;have hmm:∀n:Nat,wL false (n:Int) 201=((min n 201:Nat):Int):=λn=>by unfold wL;simp;split<;>omega
 refine fU iC hp (λx:Nat × Nat=>x.1<=t.kids.length/\x.2<=401/\mr (t.kids.drop x.1) x.2=mr t.kids 1) (λx=>[(9,.c (.d (.int .i64 x.1))),(3,.c (.d (.int .i64 x.2))),(7,.c (.d (.sl false 4 (t.kids.map gq.enc)))),(8,.c (.d (.int .i64 t.kids.length)))]) (λ_=>[]) (λx=>t.kids.length-x.1) (0,1) [] ⟨by simp,by simp,by simp⟩ (by simp) λ⟨j,n⟩ ⟨hx1,hx3,hx2⟩=>?_;unfold zdE;simp only at hx1 hx2 hx3;simp;apply gT<;>intro h
 ·have hj:j<t.kids.length:=by simpa using h
  rw[aF hj,mr]at hx2;simp[aA hj];apply gT<;>intro h
  ·simp at h;rw[aC (by omega)]at hx2;rw[H9,<-hx2,hmm]
  ·simp at h;rw[aB (by omega)]at hx2;refine gp (ih _ (aP hj)) ?_;have hle:=zn6 t.kids[j];simp;refine fJ (j+1,n+sW t.kids[j]) [] ⟨by simp;omega,by simp only;omega,hx2⟩ (by simp;omega) ?_;simp;exact⟨wI,wI⟩
 ·have hj:j=t.kids.length:=by simp at h;omega
  subst hj;rw[aO,mr]at hx2;rw[H9,<-hx2,hmm]
mutual
theorem zi5:∀t:gq,gu Pg 142 [.agg t.enc] (.one (.int .i64 (sW t)))
|.mk k n s l=>zlC (.mk k n s l) (λe h=>zh3 l e h)
theorem zh3:∀(l:List gq) (e:gq),e∈l->gu Pg 142 [.agg e.enc] (.one (.int .i64 (sW e)))
|[],e,h=>by cases h
|d::l,e,h=>by
 cases h with
 |head=>exact zi5 d
 |tail _ h=>exact zh3 l e h
end
def hgt:Nat->gq->Nat
|0,_=>1
|n+1,t=>t.kids.foldl (λh k=>max h (hgt n k)) 0+1
theorem Qn{α:Type}(f:α->Nat):∀(l:List α) (a B:Nat),a<=B->(∀x,x∈l->f x<=B)->l.foldl (λh k=>max h (f k)) a<=B
|[],a,B,h,_=>h
|x::l,a,B,h,hl=>Qn f l (max a (f x)) B (by have:=hl x (by simp);omega) λy hy=>hl y (by simp[hy])
theorem zlD:∀(n:Nat) (t:gq),hgt n t<=n+1
|0,t=>aQ _
|n+1,t=>by
 unfold hgt;have:=Qn (hgt n) t.kids 0 (n+1) (by omega) λx _=>zlD n x;omega
theorem zh4:∀(n:Nat) (t:gq),n<=100->gu Pg 165 [.agg t.enc,.one (.int .i64 (n+1:Nat))] (.one (.int .i64 (hgt n t)))
|0,t,hn=>by
 refine zd8 (by simp) λo c hN hp=>?_;unfold Q3;simp[hgt]
| n+1,t,hn=>by
 refine zd8 (by simp) λo c hN hp=>?_;have hf:=Bj o.1;unfold zah at hf;unfold Q3;have hne:¬((n:Int)+1+1=1):=by omega
 simp[hne];refine fU iC hp (λx:Nat × Nat=>x.1<=t.kids.length/\x.2<=n+1/\(t.kids.drop x.1).foldl (λh k=>max h (hgt n k)) x.2=t.kids.foldl (λh k=>max h (hgt n k)) 0) (λx=>[(13,.c (.d (.int .i64 x.1))),(5,.c (.d (.int .i64 x.2))),(1,.c (.d (.int .i64 (n+1+1:Nat)))),(11,.c (.d (.sl false 4 (t.kids.map gq.enc)))),(12,.c (.d (.int .i64 t.kids.length)))]) (λ_=>[]) (λx=>t.kids.length-x.1) (0,0) [] ⟨by simp,by simp,by simp⟩ (by simp) λ⟨j,r⟩ ⟨hx1,hx3,hx2⟩=>?_;unfold zcO;simp only at hx1 hx2 hx3;simp;apply gT<;>intro h
 ·have hj:j<t.kids.length:=by simpa using h
  rw[aF hj,foldl_cons]at hx2;simp[aA hj];have hw:IntKind.i64.wrap ((n:Int)+1)=((n+1:Nat):Int):=by rw[wI];omega
  rw[hw];refine gp (zh4 n t.kids[j] (by omega)) ?_;have hle:=zlD n t.kids[j];have hmm:wL true (r:Int) (hgt n t.kids[j])=((max r (hgt n t.kids[j]):Nat):Int):=by unfold wL;simp;split<;>omega
  simp;refine fJ (j+1,max r (hgt n t.kids[j])) [] ⟨by simp;omega,by simp only;omega,hx2⟩ (by simp;omega) ?_;simp[hmm];exact wI
 ·have hj:j=t.kids.length:=by simp at h;omega
  subst hj;rw[aO,foldl_nil]at hx2;simp only[hgt,<-hx2];simp;rw[wI]
theorem Fb(t:gq):gu Pg 141 [.agg t.enc] (.one (.int .i64 (hgt 16 t))):=by
 refine zhB (by simp) λo c hN hp=>?_;unfold zdD;simp;refine gp (zh4 16 t (by omega)) ?_;simp
end Go.Gr.P
