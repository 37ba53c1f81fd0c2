/- Texts of ours, joined and written short by a program of ours. -/
import Derived.Test.YtlfjlokfciejnaaGreatDoorFJ17
import Derived.Test.YtlfjlokfciejnaaGreatDoorFSrt
import Derived.Test.YtlfjlokfciejnaaGreatDoorFLayK
set_option maxRecDepth 20000
set_option maxHeartbeats 4000000
set_option linter.unusedVariables false
set_option linter.unusedSimpArgs false
namespace Go.Gr.P
open Go.Abs Go.Proofs Go.RowKit Go.Maps Go.Sort Go.Shelf
theorem zIU(m:Nat):AnyZ.SortsIn Tryz.prog Tryz.sorted150_ren Fence.wide m:=
⟨λblk off cap ss W hH hblk hsz=>callsIn_wide.2 (AnyM.slices_Sort_string Tryz.sort174 blk off cap ss W hH hblk hsz),
 λp cap W=>callsIn_wide.2 (AnyM.slices_Sort_string_none Tryz.sort174 p cap W)⟩
theorem zz8{H:Type}(Bm b nn:Nat)(D0:DataW H)(R:Value->Option (DataW H × List MemPlace))(w:World)(hB:Bm<w.heap.size)(hm:w.cell? ⟨Bm,0,none⟩=some (.map (some b)))(hown:w.ownsMap Tryz.prog 9 R b nn D0)(hmax:Maps.size D0<=maxLen)(hbytes:Maps.size D0*16<=140737488355328):
  Calls Tryz.prog 150 #[.func (.func 175) #[] #[.pointer (some ⟨Bm,0,none⟩)]] w λe w'=>∃(v:Value) (ss:List (List UInt8)),e=.returned v/\ss.Perm (strKeys D0)/\
   w'.ownsRow w.heap.size 9 1 v ss.length ((ss.mergeSort (λx y=>decide (x<=y))).map encStr)/\(v=.slice none 0 0↔ss=[])/\Below w.heap.size w w':=by
 refine(callsIn_wide (n:=5)).1 ?_
 have hseq:SeqGives Fence.wide 2 Tryz.prog 175 #[.pointer (some ⟨Bm,0,none⟩)] encStr (λss=>ss.Perm (strKeys D0)) (Maps.size D0) w:=
  AnyZ.keys_gives (ρ:=Tryz.keys151_ren) {Tryz.keys151 with} Fence.wide _ trivial rfl (by omega) Bm b nn D0 _ hB hm hown
 exact AnyZ.sorted_in Tryz.sorted150 Fence.wide 5 trivial trivial trivial trivial rfl (by omega) (zIU _) (enters_of Tryz.func174 (by kernel_rfl) rfl) 175 #[.pointer (some ⟨Bm,0,none⟩)] trivial (enters_of Tryz.func175 (by kernel_rfl) rfl) _ _ hmax hbytes _ hseq
end Go.Gr.P
namespace Go.Gr.P
open Go.Abs Go.Proofs Go.RowKit List
def iK(l:List (fE × gY)):List (D × AV):=l.map λx=>(.str x.1,.ag (x.2.enc.map .d))
@[simp] theorem zJ2(f:Nat->Nat)(l:List (fE × gY)):(iK l).map (λe=>(e.1,AV.ren f e.2))=iK l:=by simp[iK]
theorem qg{n:Nat}{l:List (fE × gY)}{a:D}{b:AV}(h:(a,b)∈iK l):AV.lt n b=true:=by
 simp only[iK,ae]at h;obtain⟨x,_,e⟩:=h;cases e;simp
theorem Jc{f:Nat->Bool}{l:List (fE × gY)}(a:D)(b:AV)(h:(a,b)∈iK l):AV.lv f b=true:=by
 simp only[iK,ae]at h;obtain⟨x,_,e⟩:=h;cases e;simp
@[simp] theorem Zz(l:List (fE × gY)):(iK l).map (·.1)=(l.map (·.1)).map .str:=by simp[iK]
theorem zAh(l:List (fE × gY)):MCall Pg 151 [.c (.map 0)] [.map (iK l)] (.c (.fn (.func 175) [.ptr 1 0])) [.map (iK l),.box [.map 0]]:=by
 refine zqe ⟨by simp,by simp,by simp,by simp,by simp,by simp[live],by simp[live];exact Jc⟩ λts hts ok hb c hN hp=>?_;obtain⟨t,rfl⟩:=mD hts;unfold Zv;simp;exact fK [0,2] [1]
theorem zFZ{h:PH}{ρ:RM}{es:List (D × AV)}{w:World}{g:FuncId}{argsC:List Value}(K:HRel h ρ (hpOf [.map es,.box [.map 0]]) w.heap)(r:zai h ρ [.c (.fn (.func g) [.ptr 1 0])] argsC):
  ∃(p0:Nat × Nat) (B:Nat),argsC=[.func (.func g) #[] #[.pointer (some ⟨B,0,none⟩)]]/\B<w.heap.size/\w.cell? ⟨B,0,none⟩=some (.map (some p0.1))/\zaI h ρ p0 (.map es) w.heap:=by
 match argsC,r with
 | [v],r=>
  simp only[zai,RepV,RepC,and_true]at r;obtain⟨vs,e1,e2,e3⟩:=r
  match vs,e2,e3 with
  | [u],_,e3=>
   simp only[iD,RepC,and_true]at e3;obtain⟨_,p1,q1,q2⟩:=e3;have hb:=K.own 1 p1 q1;simp[hpOf,zaI]at hb;obtain⟨us,⟨T,b1⟩,b2,b3⟩:=hb
   match us,b2,b3 with
   | [x],_,b3=>
    simp only[iD,RepC,and_true]at b3;obtain⟨_,p0,c1,c2⟩:=b3;have h0:=K.own 0 p0 c1;refine⟨p0,p1.1,by rw[e1,q2],?_,?_,by simpa[hpOf]using h0⟩
    ·rcases aW p1.1 w.heap.size with g|g
     ·exact g
     ·rw[aj g]at b1;cases b1
    ·simp[World.cell?,b1,c2]
theorem zxK(l:List (fE × gY))(hn:(l.map (·.1)).Nodup)(hl:l.length<=1073741824):
  MCall Pg 150 [.c (.fn (.func 175) [.ptr 1 0])] [.map (iK l),.box [.map 0]] (.c (.d (.sl false 1 (encS (zco (l.map (·.1))))))) [.map (iK l),.box [.map 0]]:=by
 have hlen:(zco (l.map (·.1))).length=l.length:=by simp[zco]
 have hm:(140737488355328:Nat)<=maxLen:=by decide
 have e:encS (zco (l.map (·.1)))=((zco (l.map (·.1))).map D.str).map λd=>[d]:=by simp[encS]
 rw[e];refine MCall.row (by decide+kernel) (BG (by simp)) (by simp[live];exact Jc) (by simp[hlen,zah];omega) λh ρ w argsC K r=>?_;obtain⟨p0,B,rfl,hB,hc,hmap⟩:=zFZ K r;obtain⟨D0,o1,o2,o3⟩:=zJj (P:=Tryz.prog) (k:=9) Tryz.underlying9 (Zz l) hn (by simpa using hl) hmap;have o2':Maps.size D0=l.length:=by rw[o2];simp
 refine(zz8 B p0.1 _ D0 zrv w hB hc o1 (by omega) (by omega)).mono λe w' q=>?_;obtain⟨v,ss,q1,q2,q3,_,q5⟩:=q;have q6:ss.Perm ((l.map (·.1)).map λs=>s.data.toList):=q2.trans o3;have q7:ss.mergeSort (λx y=>decide (x<=y))=((l.map (·.1)).map λs=>s.data.toList).mergeSort λx y=>decide (x<=y):=mergeSort_of_perm q6;obtain⟨ms,ck,_,g2,_⟩:=hmap;obtain⟨_,hsz⟩:=zvn (P:=Tryz.prog) (k:=9) (Zz l) g2;have hss:ss.length=l.length:=by simpa using q6.length_eq
 refine⟨v,_,9,q1,λh=>ziN λx hx=>?_,by simpa[hss,hlen,q7]using q3,q5⟩;have hx':=(mergeSort_perm _ _).mem_iff.1 hx;obtain⟨s,hs,rfl⟩:=ae.1 hx';rw[cB];exact hsz s hs
end Go.Gr.P
namespace Go.Gr.P
open Go.Abs Go.Proofs List
theorem GY{k:fE}:∀{l:List (fE × gY)} (i:Nat),k∈l.map (·.1)->∃j,kG 1 (.str k) (iK l) i=some (some (j,.ag ((rZ l k).enc.map .d)))
|[],i,h=>by simp at h
| x::l,i,h=>by
 by_cases e:k=x.1
 ·exact⟨i,by simp[iK,rZ,e]⟩
 ·have:k∈l.map (·.1):=by
   simp only[map_cons,aN]at h;exact h.resolve_left e
  obtain⟨j,hj⟩:=GY (i+1) this;simp only[iK]at hj;exact⟨j,by simp[iK,rZ,e,hj]⟩
theorem zEJ(a b f:D)(l:List (fE × gY))(hn:(l.map (·.1)).Nodup)(hl:l.length<=1073741824):
  MCall Pg 105 [.c (.ptr 0 0),.c (.map 1)] [.box [.d a,.d b,.d (.sl true 1 []),.d (.sl true 5 []),.d f],.map (iK l)] (.tup [])
   [.box [.d a,.d b,.msl 1 2 0 (kN l (zco (l.map (·.1)))).length,.msl 5 3 0 (kN l (zco (l.map (·.1)))).length,.d f],.map (iK l),
    .arr 1 ((encS ((kN l (zco (l.map (·.1)))).map (·.1))).map (·.map .d)),.arr 5 (((kN l (zco (l.map (·.1)))).map (·.2.enc)).map (·.map .d))]:=by
 refine ZK ⟨by simp,by simp,by simp,by simp,by simp,by simp,by simp[live];exact Jc⟩ λts hts ok hb c hN hp=>?_;obtain⟨t0,t1,rfl⟩:=F4 hts;unfold Om;simp;refine fU [.c 0 2,.c 0 3] ?_;simp;refine gP [1] (zAh l) (by simp;exactλa b h=>qg h) ?_;simp;refine gP [1,6] (zxK l hn hl) (by simp;exactλa b h=>qg h) ?_;simp;have hks:(zco (l.map (·.1))).length<=1073741824:=by simpa[zco]using hl
 have hmem:∀k,k∈zco (l.map (·.1))->k∈l.map (·.1):=λk hk=>JA.1 hk;generalize zco (l.map (·.1))=ks at*
 refine fP gy hp EK [11] (λj:Nat=>j<=ks.length) (λj=>[.c (.d (.int .i64 j))])
  (λj=>[.box [.d a,.d b,.msl 1 2 0 (kN l (ks.take j)).length,.msl 5 3 0 (kN l (ks.take j)).length,.d f],.map (iK l),.arr 1 ((encS ((kN l (ks.take j)).map (·.1))).map (·.map .d)),.arr 5 (((kN l (ks.take j)).map (·.2.enc)).map (·.map .d)),.pin t0 0,.pin t1 1])
  (λj=>ks.length-j) 0 [0,1,4,5,2,3] (by simp) (by simp[EK,kN,encS];exactλa b h=>qg h) λj h1=>?_
 unfold Ol EK;simp;apply gM<;>intro h
 ·have hj:j<ks.length:=by simpa using h
  simp[aA hj];obtain⟨i,hi⟩:=GY (l:=l) 0 (hmem _ (aR hj));simp[hi];refine gQ (yD _) ?_;have hs:=XY (l:=l) hj;have hlen:=XZ l (ks.take j);rw[bI]at hlen;generalize rZ l ks[j]=d at hs⊢;simp;apply gM<;>intro h
  ·simp at h;rw[h]at hs;simp at hs;refine⟨by omega,by omega,by decide,?_⟩;refine fF (j+1) [0,1,7,8,4,5] (by omega) (by omega) ?_;simp[hs];refine⟨wI,λa b h=>qg h,?_,?_⟩
   ·rw[aG (by simp)]<;>simp[encS]
   ·rw[aG (by simp)]<;>simp[Function.comp_def]
  ·simp at h;rw[h]at hs;simp at hs;refine fF (j+1) [0,1,2,3,4,5] (by omega) (by omega) ?_;simp[hs];exact⟨wI,λa b h=>qg h⟩
 ·have hj:j=ks.length:=by simp at h;omega
  subst hj;simp;exact fK [0,1,2,3] [4,5]
end Go.Gr.P
namespace Go.Gr.P
open Go.Abs
section
variable {v:gY->gY->gY} {a b:gY}
end
section
variable {a b c:gY}
end
end Go.Gr.P
namespace Go.Gr.P
open Go.Abs Go.Proofs List
theorem PN(l:List (fE × Int))(hl:l.length<=1073741824):gU Pg 103 [.one (.sl false 2 (iI l))] (.one (.sl false 2 (iI l))):=by
 refine zro (by simp) λo c hN hp=>?_;unfold J8;cases l with
 |nil=>
  simp[iI];refine⟨fU [] ?_,fU [] ?_⟩<;>simp
 |cons x l=>
  simp[iI];refine⟨by simp at hl;omega,?_⟩;refine fU [] ?_;simp;rw[aG (by simp)]
theorem Jd(k:fE)(d:gY):∀(l:List (fE × gY)) (i:Nat),(∃j w,kG 1 (.str k) (iK l) i=some (some (i+j,w))/\(iK l).set j (.str k,.ag (d.enc.map .d))=iK (kK l k d))\/
 (kG 1 (.str k) (iK l) i=some none/\iK l++[(.str k,.ag (d.enc.map .d))]=iK (kK l k d))
|[],i=>.inr ⟨rfl,rfl⟩
| x::l,i=>by
 by_cases e:k=x.1
 ·refine .inl ⟨0,.ag (x.2.enc.map .d),?_,?_⟩
  ·simp[iK,e]
  ·simp[iK,kK,e]
 ·have ih:=Jd k d l (i+1);simp only[iK]at ih;rcases ih with⟨j,w,h1,h2⟩|⟨h1,h2⟩
  ·refine .inl ⟨j+1,w,?_,?_⟩
   ·simp[iK,e,h1];omega
   ·simp[iK,kK,e,h2]
  ·refine .inr ⟨?_,?_⟩
   ·simp[iK,e,h1]
   ·simpa[iK,kK,e]using h2
theorem EM{k:fE}:∀{l:List (fE × gY)} (i:Nat),k∉l.map (·.1)->kG 1 (.str k) (iK l) i=some none
|[],i,_=>rfl
|x::l,i,h=>by
 simp only[map_cons,aN,dU]at h;have ih:=EM (l:=l) (i+1) h.2;simp only[iK]at ih;simp[iK,h.1,ih]
theorem cmp0{c:Ctx}(hp:c.pure){a b:gY}(Ma:May a)(Mb:May b){Q:Exit->St->Prop}{S:St}{g}
  (h0:iM [0,1,2] S ((23,.c (.d (.int .i64 0)))::(21,.c (.d (.sl false 1 (encI a.tags))))::(22,.c (.d (.int .i64 a.tags.length)))::EH a b) [mO,.arr 1 ((encI qd).map (·.map .d)),.box [.msl 1 1 0 6,.d (.sl true 2 []),.d (.sl true 1 []),.d (.sl true 5 []),.d (.sl true 5 [])]])
  (hQ:∀T,Abs.look T 2=.c (.d (.rp a.enc 0))->Abs.look T 3=.c (.d (.rp b.enc 0))->Abs.look T 4=.c (.ptr 0 0)->Abs.look T 5=.c (.ptr 2 0)->
   Q (.exit 0) ⟨T,hpOf [mO,.arr 1 ((encI (lG a.tags b.tags)).map (·.map .d)),.box [.msl 1 1 0 6,.d (.sl true 2 []),.d (.sl true 1 []),.d (.sl true 5 []),.d (.sl true 5 [])]],3⟩):mW Pg c Ob Q g S:=by
 have hL:(lG a.tags b.tags).length=6:=GK Ma.tags Mb.tags
 refine fO gy hp (λj:Nat=>j<=6) (λj=>(23,.c (.d (.int .i64 j)))::(21,.c (.d (.sl false 1 (encI a.tags))))::(22,.c (.d (.int .i64 a.tags.length)))::EH a b)
  (λj=>[mO,.arr 1 ((encI (qG (lG a.tags b.tags) j)).map (·.map .d)),.box [.msl 1 1 0 6,.d (.sl true 2 []),.d (.sl true 1 []),.d (.sl true 5 []),.d (.sl true 5 [])]])
  (λj=>6-j) 0 [0,1,2] (by simp) h0 λj h1=>?_
 unfold Ob;simp;apply gM<;>intro h
 ·have hj:j<6:=by have:=Ma.tags;simp at h;omega
  have hja:j<a.tags.length:=by rw[Ma.tags];exact hj
  have hjb:j<b.tags.length:=by rw[Mb.tags];exact hj
  have hup:(qG (lG a.tags b.tags) j).length=6:=by simp[qG,hL];omega
  have hju:j<(qG (lG a.tags b.tags) j).length:=by omega
  have hset:∀x,x=(lG a.tags b.tags)[j]'(by omega)->(encI (qG (lG a.tags b.tags) j)).set j [.int .i64 x]=encI (qG (lG a.tags b.tags) (j+1)):=λx e=>by
   rw[e,<-Xk,Xj hL hj]
  have hval:(lG a.tags b.tags)[j]'(by omega)=if a.tags[j]=0 then b.tags[j]else a.tags[j]:=by simp[lG]
  simp[aA hja,aA hjb,aA hju];apply gM<;>intro h
  ·simp at h;refine⟨by omega,?_⟩;refine fF (j+1) [0,1,2] (by omega) (by omega) ?_;simp;refine⟨wI,?_⟩;rw[<-hset b.tags[j] (by rw[hval,aC h])];simp[fD]
  ·simp at h;refine⟨by omega,?_⟩;refine fF (j+1) [0,1,2] (by omega) (by omega) ?_;simp;refine⟨wI,?_⟩;rw[<-hset a.tags[j] (by rw[hval,aB h])];simp[fD]
 ·have hj:j=6:=by have:=Ma.tags;simp at h;omega
  subst hj;have hup:qG (lG a.tags b.tags) 6=lG a.tags b.tags:=by
   unfold qG;rw[aG (by omega)];simp
  rw[hup];exact hQ _ (by simp) (by simp) (by simp) (by simp)
theorem PO{c:Ctx}(hp:c.pure){a b:gY}(Ma:May a)(hal:a.names.length<=1073741824)(Tg:List Int)(N:List (fE × Int)){Q:Exit->St->Prop}{S:St}{g}
  (h0:iM [0,1,2,3] S ((65,.c (.d (.int .i64 0)))::(63,.c (.d (.sl false 1 (encS a.names))))::(64,.c (.d (.int .i64 a.names.length)))::(8,.c (.map 3))::EH a b) [mO,.dead,ve Tg N,.map []])
  (hQ:∀T,Abs.look T 2=.c (.d (.rp a.enc 0))->Abs.look T 3=.c (.d (.rp b.enc 0))->Abs.look T 4=.c (.ptr 0 0)->Abs.look T 5=.c (.ptr 2 0)->Abs.look T 8=.c (.map 3)->
   Q (.exit 2) ⟨T,hpOf [mO,.dead,ve Tg N,.map (iK (a.names.zip a.fields))],4⟩):mW Pg c Oc Q g S:=by
 refine fO gy hp (λj:Nat=>j<=a.names.length) (λj=>(65,.c (.d (.int .i64 j)))::(63,.c (.d (.sl false 1 (encS a.names))))::(64,.c (.d (.int .i64 a.names.length)))::(8,.c (.map 3))::EH a b)
  (λj=>[mO,.dead,ve Tg N,.map (iK ((a.names.zip a.fields).take j))])
  (λj=>a.names.length-j) 0 [0,1,2,3] (by simp) (by simpa[iK]using h0) λj h1=>?_
 unfold Oc;simp;apply gM<;>intro h
 ·simp at h;have hj:j<a.names.length:=by omega
  have hj':j<a.fields.length:=by have:=Ma.len;omega
  simp[aA hj,aA hj'];have hz:j<(a.names.zip a.fields).length:=by simp;omega
  have hk:a.names[j]∉((a.names.zip a.fields).take j).map (·.1):=by
   rw[zz1 Ma.len];exact EG (sG Ma.names) hj
  simp[EM 0 hk];refine fF (j+1) [0,1,2,3] (by omega) (by omega) ?_;simp;refine⟨wI,?_,λa b h=>qg h⟩;rw[aJ hz];simp[iK]
 ·have hj:j=a.names.length:=by simp at h;omega
  subst hj;have hz:(a.names.zip a.fields).take a.names.length=a.names.zip a.fields:=aG (by simp;omega);rw[hz];exact hQ _ (by simp) (by simp) (by simp) (by simp) (by simp)
theorem PP{c:Ctx}(hp:c.pure){v:gY->gY->gY}{a b:gY}(Ma:May a)(Mb:May b)(hbl:b.names.length<=1073741824)(hu:∀k,v idC (kJ b k)=kJ b k)
  (H1:∀k,k∈a.names->k∈b.names->gU Pg 64 [.agg (kJ a k).enc,.agg (kJ b k).enc] (.agg (v (kJ a k) (kJ b k)).enc))
  (Tg:List Int) (N:List (fE × Int)) {Q:Exit->St->Prop} {S:St} {g}
  (h0:iM [0,1,2,3] S ((81,.c (.d (.int .i64 0)))::(79,.c (.d (.sl false 1 (encS b.names))))::(80,.c (.d (.int .i64 b.names.length)))::(8,.c (.map 3))::EH a b) [mO,.dead,ve Tg N,.map (iK (a.names.zip a.fields))])
  (hQ:∀T l,GL v a b b.names.length l->Abs.look T 2=.c (.d (.rp a.enc 0))->Abs.look T 3=.c (.d (.rp b.enc 0))->Abs.look T 4=.c (.ptr 0 0)->Abs.look T 5=.c (.ptr 2 0)->Abs.look T 8=.c (.map 3)->
   Q (.exit 4) ⟨T,hpOf [mO,.dead,ve Tg N,.map (iK l)],4⟩):mW Pg c Od Q g S:=by
 refine fO gy hp (λx:Nat × List (fE × gY)=>x.1<=b.names.length/\GL v a b x.1 x.2) (λx=>(81,.c (.d (.int .i64 x.1)))::(79,.c (.d (.sl false 1 (encS b.names))))::(80,.c (.d (.int .i64 b.names.length)))::(8,.c (.map 3))::EH a b)
  (λx=>[mO,.dead,ve Tg N,.map (iK x.2)])
  (λx=>b.names.length-x.1) (0,a.names.zip a.fields) [0,1,2,3] ⟨by simp,zHO Ma⟩ h0 λ⟨j,l⟩ ⟨h1,hI⟩=>?_
 unfold Od;simp only at h1 hI;simp;apply gM<;>intro h
 ·have hj:j<b.names.length:=by simpa using h
  have hj':j<b.fields.length:=by have:=Mb.len;omega
  have hf:kJ b b.names[j]=b.fields[j]:=X5 hj hj' (sG Mb.names);have hcon:b.names[j]∈l.map (·.1)↔b.names[j]∈a.names:=by
   rw[hI.1];simp only[aQ,bD];exact⟨λh=>h.elim id λh=>absurd h.1 (EG (sG Mb.names) hj),.inl⟩
  have hnext:=λd hd=>zHP (d:=d) Ma Mb hj hI hd;rw[hf]at hnext;simp[aA hj,aA hj'];by_cases hk:b.names[j]∈l.map (·.1)
  ·have hka:=hcon.1 hk;have hat:rZ l b.names[j]=kJ a b.names[j]:=by
    rw[hI.2 _ hk,aB (EG (sG Mb.names) hj)]
   obtain⟨i',hi⟩:=GY (l:=l) 0 hk;rcases Jd b.names[j] b.fields[j] l 0 with⟨i,w,m1,m2⟩|⟨m1,m2⟩
   rotate_left
   ·rw[hi]at m1;cases m1
   rw[hi]at m1;simp only[ah,bR]at m1;obtain⟨rfl,rfl⟩:=m1;rw[hat]at hi;simp[hi,m2];have hk2:b.names[j]∈(kK l b.names[j] b.fields[j]).map (·.1):=by rw[JH,aC hk];exact hk
   have hcall:=H1 _ hka (aR hj);rw[hf]at hcall;refine gQ hcall ?_;simp;rcases Jd b.names[j] (v (kJ a b.names[j]) b.fields[j]) (kK l b.names[j] b.fields[j]) 0 with⟨i2,w,m3,m4⟩|⟨m3,m4⟩
   rotate_left
   ·obtain⟨i3,hi3⟩:=GY (l:=kK l b.names[j] b.fields[j]) 0 hk2;rw[hi3]at m3;cases m3
   simp[m2,m3,m4,Xi];refine⟨by decide,?_⟩;refine fF (j+1,kK l b.names[j] (v (kJ a b.names[j]) b.fields[j])) [0,1,2,3] ⟨by simp;omega,hnext _ rfl⟩ (by simp;omega) ?_;simp;exact⟨wI,λa b h=>qg h⟩
  ·have hka:b.names[j]∉a.names:=λh=>hk (hcon.2 h);rcases Jd b.names[j] b.fields[j] l 0 with⟨i,w,m1,m2⟩|⟨m1,m2⟩
   ·rw[EM 0 hk]at m1;cases m1
   simp[m1,m2];have hz0:kJ a b.names[j]=idC:=yB hka;have hu':=hu b.names[j];rw[hf]at hu';refine fF (j+1,kK l b.names[j] b.fields[j]) [0,1,2,3] ⟨by simp;omega,hnext _ (by rw[hz0,hu'])⟩ (by simp;omega) ?_;simp;exact⟨wI,λa b h=>qg h⟩
 ·have hj:j=b.names.length:=by simp at h;omega
  subst hj;exact hQ _ l hI (by simp) (by simp) (by simp) (by simp) (by simp)
@[simp] theorem zGa:encS []=[]:=rfl
structure yn (v:gY->gY->gY) (a b:gY):Prop where
 Ma:May a
 Mb:May b
 v0:v idC idC=idC
 hu:∀k,v (kJ a k) idC=kJ a k/\v idC (kJ b k)=kJ b k
 sa:qf 536870912 a
 sb:qf 536870912 b
 H1:∀k,k∈a.names->k∈b.names->gU Pg 64 [.agg (kJ a k).enc,.agg (kJ b k).enc] (.agg (v (kJ a k) (kJ b k)).enc)
 H2:0<a.fn.length+b.fn.length->gU Pg 64 [.agg (jO b).1.enc,.agg (jO a).1.enc] (.agg (v (jO b).1 (jO a).1).enc)
 H3:0<a.fn.length+b.fn.length->gU Pg 64 [.agg (jO a).2.enc,.agg (jO b).2.enc] (.agg (v (jO a).2 (jO b).2).enc)
theorem PQ{v:gY->gY->gY}{a b:gY}(H:yn v a b):(jG v a b).fn=if iE (jG v a b) 5=0/\0<a.fn.length+b.fn.length then nC (v (jO b).1 (jO a).1) (v (jO a).2 (jO b).2)else []:=by
 have h0:(jG v a b).fn=if iE (jG v a b) 5=0 then nC (v (jO b).1 (jO a).1) (v (jO a).2 (jO b).2)else []:=rfl;rw[h0];by_cases q:iE (jG v a b) 5=0
 ·by_cases r:0<a.fn.length+b.fn.length
  ·rw[aC q,aC ⟨q,r⟩]
  ·have ea:a.fn=[]:=aT.1 (by omega);have eb:b.fn=[]:=aT.1 (by omega);have pa:jO a=(idC,idC):=by unfold jO;rw[ea]
   have pb:jO b=(idC,idC):=by unfold jO;rw[eb]
   rw[aC q,aB (λh=>r h.2),pa,pb];unfold nC;simp[H.v0,JC]
 ·rw[aB q,aB (λh=>q h.1)]
theorem zEA{v:gY->gY->gY}{a b:gY}(H:yn v a b)(q4:iE a 4=0)(r4:iE (jG v a b) 4=0):gU Pg 64 [.agg a.enc,.agg b.enc] (.agg (jG v a b).enc):=by
 have Ma:=H.Ma;have Mb:=H.Mb;have sa:=H.sa;have sb:=H.sb;refine Oe (by simp) λo c hN hp=>?_;have hL:(lG a.tags b.tags).length=6:=GK Ma.tags Mb.tags;unfold J6;simp;refine gN [] GX ?_;simp;refine cmp0 hp Ma Mb (by simp) λS0 e2 e3 e4 e5=>?_;have ha4:a.tags[4]?=some (iE a 4):=za Ma.tags (by omega);have hc4:(lG a.tags b.tags)[4]?=some (iE (jG v a b) 4):=za hL (by omega);have hc5:(lG a.tags b.tags)[5]?=some (iE (jG v a b) 5):=za hL (by omega);have hE:(jG v a b).enc=[.sl false 1 (encI (lG a.tags b.tags)),.sl false 2 (iI (jG v a b).needs),.sl false 1 (encS (jG v a b).names),.sl false 5 ((jG v a b).fields.map gY.enc),.sl false 5 ((jG v a b).fn.map gY.enc)]:=gY.enc_eq _;have hneeds:(jG v a b).needs=uW a b:=rfl;have hnames:(jG v a b).names=if iE (jG v a b) 4=0 then(rf v a b).map (·.1)else []:=rfl;have hfields:(jG v a b).fields=if iE (jG v a b) 4=0 then(rf v a b).map (·.2)else []:=rfl;have hfn:=PQ H;rw[hE,hneeds,hnames,hfields,hfn];unfold uW;clear hE hneeds hnames hfields hfn;have h6:6<=(lG a.tags b.tags).length:=by omega
 have hnn:a.needs.length<=1073741824/\b.needs.length<=1073741824:=⟨by have:=sa.needs;omega,by have:=sb.needs;omega⟩
 have hfl:a.fn.length<=2/\b.fn.length<=2:=⟨by have:=Ma.fn_len;omega,by have:=Mb.fn_len;omega⟩
 generalize lG a.tags b.tags=T at*
 have htk:(encI T).take 6=encI T:=aG (by simp[hL]);simp;refine fT [1] ?_;simp[iV,h6,htk,e2,e3,e4,e5];refine gQ (PN a.needs hnn.1) ?_;rw[aC q4,aC r4,aC r4];simp[iV,ha4,q4,e2,e3,e4,e5];refine gQ (Zy a.needs b.needs hnn.1 hnn.2) ?_;simp[iV,hc4,h6,htk,r4,e2,e3,e4,e5];have hal:a.names.length<=1073741824:=by have:=sa.fields;have:=Ma.len;omega
 have hbl:b.names.length<=1073741824:=by have:=sb.fields;have:=Mb.len;omega
 refine PO hp (a:=a) (b:=b) Ma hal T (oZ a.needs b.needs) (by simp[iV,e2,e3,e4,e5,h6,htk]) λS1 e2 e3 e4 e5 e8=>?_;simp[e2,e3,e4,e5,e8];refine PP hp Ma Mb hbl (λk=>(H.hu k).2) H.H1 T (oZ a.needs b.needs) (by simp[e2,e3,e4,e5,e8];exactλa b h=>qg h) λS2 l hI e2 e3 e4 e5 e8=>?_;have hk1:=hI.1;rw[bO]at hk1;have hnd:(l.map (·.1)).Nodup:=by rw[hk1];exact Xa (sG Ma.names) (sG Mb.names)
 have hlen:l.length<=1073741824:=by
  have e1:l.length=(l.map (·.1)).length:=by simp
  have e2:=bS (λk=> !decide (k∈a.names)) b.names;have:=sa.fields;have:=sb.fields;have:=Ma.len;have:=Mb.len;rw[e1,hk1,aX];omega
 have hsort:zco (l.map (·.1))=zZ a b:=by rw[hk1];try rfl
 have hout:kN l (zco (l.map (·.1)))=rf v a b:=by
  rw[hsort];unfold kN rf busy;congr 1;refine bW λk hk=>?_;have hk':=X9.1 hk;have hkl:k∈l.map (·.1):=by
   rw[hk1];simp only[aQ,bD];by_cases q:k∈a.names
   ·exact .inl q
   ·exact .inr ⟨hk'.resolve_left q,by simp[q]⟩
  rw[hI.2 k hkl,bO];split
  ·rfl
  ·rename_i q;have:kJ b k=idC:=yB q;rw[this,(H.hu k).1]
 have hfk:=zEJ (.sl false 1 (encI T)) (.sl false 2 (iI (oZ a.needs b.needs))) (.sl true 5 []) l hnd hlen;rw[hout]at hfk;generalize rf v a b=L at*
 have ht1:(encS ((L).map (·.1))).take (L).length=encS ((L).map (·.1)):=aG (by simp);have ht2:((L).map λx=>x.2.enc).take (L).length=(L).map λx=>x.2.enc:=aG (by simp);simp[e2,e3,e4,e5,e8];refine gP [2,3] hfk (by simp;exactλa b h=>qg h) ?_;simp;refine fT [4,5] ?_;simp only[Hf,Hm,aC,aB,reduceIte,Nat.reduceEqDiff,E8,ww,Blk.fz_arr,Hd,yw]
 refine St.forget (F:=w_ Pg c _ _ _) (λT' M=>Abs.look T' 2=.c (.d (.rp a.enc 0))/\Abs.look T' 3=.c (.d (.rp b.enc 0))/\Abs.look T' 4=.c (.ptr 0 0)/\Abs.look T' 5=.c (.ptr 2 0)/\
  M 0=mO/\M 2=.box [.d (.sl false 1 (encI T)),.d (.sl false 2 (iI (oZ a.needs b.needs))),.d (.sl false 1 (encS (L.map (·.1)))),.d (.sl false 5 (L.map λx=>x.2.enc)),.d (.sl true 5 [])]/\∀i,6<=i->M i=.non) ?_ λT' M ⟨e2,e3,e4,e5,m0,m2,mn⟩=>?_
 ·refine⟨?_,?_,?_,?_,?_,?_,λi hi=>?_⟩
  ·simp only[iV,xk,aB,reduceIte,Nat.reduceEqDiff,e2,gK,AC.fz_d]
  ·simp only[iV,xk,aB,reduceIte,Nat.reduceEqDiff,e3,gK,AC.fz_d]
  ·simp only[iV,xk,aB,reduceIte,Nat.reduceEqDiff,e4,gK,AC.fz_ptr]
  ·simp only[iV,xk,aB,reduceIte,Nat.reduceEqDiff,e5,gK,AC.fz_ptr]
  ·simp[ww]
  ·simp[ww,ht1,ht2]
  ·have h1:i≠4:=by omega
   have h2:i≠5:=by omega
   have h3:i≠2:=by omega
   have h4:i≠3:=by omega
   have h5:hpOf [mO,Blk.dead,ve T (oZ a.needs b.needs),Blk.map (iK l)] i=.non:=wK (by simp;omega);simp[ww,h1,h2,h3,h4,h5]
 simp[hc5,e2,e3,e4,e5,m0,m2,mn];refine gM (λr5=>gM (λq5=>?_) (λq5=>?_)) (λr5=>?_)
 ·simp at r5;have hw:IntKind.i64.wrap ((a.fn.length:Int)+b.fn.length)=(a.fn.length:Int)+b.fn.length:=wI;have q5':0<a.fn.length+b.fn.length:=by
   rw[hw]at q5;simp at q5;omega
  refine gQ (EL a Ma.fn_len) ?_;simp[e2,e3,e4,e5,m0,m2,mn];refine gQ (EL b Mb.fn_len) ?_;simp[m0,m2,mn,e2,e3,e4,e5];refine gQ (H.H2 q5') ?_;simp[m0,m2,mn,e2,e3,e4,e5];refine gQ (H.H3 q5') ?_;simp[m0,m2,mn,e2,e3,e4,e5];refine gP [2] (PM (.sl false 1 (encI T)) (.sl false 2 (iI (oZ a.needs b.needs))) (.sl false 1 (encS ((L).map (·.1)))) (.sl false 5 ((L).map λx=>x.2.enc)) rfl (v (jO b).1 (jO a).1) (v (jO a).2 (jO b).2)) (by simp[m2]) ?_;simp[m0,m2,mn,e2,e3,e4,e5];refine⟨by decide,?_⟩;simp[r5,q5',e2,e3,e4,e5,m0,m2,mn]
 ·simp at r5;have hw:IntKind.i64.wrap ((a.fn.length:Int)+b.fn.length)=(a.fn.length:Int)+b.fn.length:=wI;have q5':¬0<a.fn.length+b.fn.length:=by
   rw[hw]at q5;simp at q5;omega
  simp[r5,q5',e2,e3,e4,e5,m0,m2,mn]
 ·simp at r5;simp[r5,e2,e3,e4,e5,m0,m2,mn]
theorem zEB{v:gY->gY->gY}{a b:gY}(H:yn v a b)(q4:iE a 4=0)(r4:iE (jG v a b) 4≠0):gU Pg 64 [.agg a.enc,.agg b.enc] (.agg (jG v a b).enc):=by
 have Ma:=H.Ma;have Mb:=H.Mb;have sa:=H.sa;have sb:=H.sb;refine Oe (by simp) λo c hN hp=>?_;have hL:(lG a.tags b.tags).length=6:=GK Ma.tags Mb.tags;unfold J6;simp;refine gN [] GX ?_;simp;refine cmp0 hp Ma Mb (by simp) λS0 e2 e3 e4 e5=>?_;have ha4:a.tags[4]?=some (iE a 4):=za Ma.tags (by omega);have hc4:(lG a.tags b.tags)[4]?=some (iE (jG v a b) 4):=za hL (by omega);have hc5:(lG a.tags b.tags)[5]?=some (iE (jG v a b) 5):=za hL (by omega);have hE:(jG v a b).enc=[.sl false 1 (encI (lG a.tags b.tags)),.sl false 2 (iI (jG v a b).needs),.sl false 1 (encS (jG v a b).names),.sl false 5 ((jG v a b).fields.map gY.enc),.sl false 5 ((jG v a b).fn.map gY.enc)]:=gY.enc_eq _;have hneeds:(jG v a b).needs=uW a b:=rfl;have hnames:(jG v a b).names=if iE (jG v a b) 4=0 then(rf v a b).map (·.1)else []:=rfl;have hfields:(jG v a b).fields=if iE (jG v a b) 4=0 then(rf v a b).map (·.2)else []:=rfl;have hfn:=PQ H;rw[hE,hneeds,hnames,hfields,hfn];unfold uW;clear hE hneeds hnames hfields hfn;have h6:6<=(lG a.tags b.tags).length:=by omega
 have hnn:a.needs.length<=1073741824/\b.needs.length<=1073741824:=⟨by have:=sa.needs;omega,by have:=sb.needs;omega⟩
 have hfl:a.fn.length<=2/\b.fn.length<=2:=⟨by have:=Ma.fn_len;omega,by have:=Mb.fn_len;omega⟩
 generalize lG a.tags b.tags=T at*
 have htk:(encI T).take 6=encI T:=aG (by simp[hL]);simp;refine fT [1] ?_;simp[iV,h6,htk,e2,e3,e4,e5];refine gQ (PN a.needs hnn.1) ?_;rw[aC q4,aB r4,aB r4];simp[iV,ha4,q4,e2,e3,e4,e5];refine gQ (Zy a.needs b.needs hnn.1 hnn.2) ?_;simp[iV,hc4,h6,htk,r4,e2,e3,e4,e5];refine fT [] ?_;simp only[yw]
 refine St.forget (F:=w_ Pg c _ _ _) (λT' M=>Abs.look T' 2=.c (.d (.rp a.enc 0))/\Abs.look T' 3=.c (.d (.rp b.enc 0))/\Abs.look T' 4=.c (.ptr 0 0)/\Abs.look T' 5=.c (.ptr 2 0)/\
  M 0=mO/\M 2=.box [.d (.sl false 1 (encI T)),.d (.sl false 2 (iI (oZ a.needs b.needs))),.d (.sl true 1 []),.d (.sl true 5 []),.d (.sl true 5 [])]/\∀i,3<=i->M i=.non) ?_ λT' M ⟨e2,e3,e4,e5,m0,m2,mn⟩=>?_
 ·refine⟨?_,?_,?_,?_,?_,?_,λi hi=>?_⟩
  ·simp only[iV,xk,aB,reduceIte,Nat.reduceEqDiff,e2,gK,AC.fz_d]
  ·simp only[iV,xk,aB,reduceIte,Nat.reduceEqDiff,e3,gK,AC.fz_d]
  ·simp only[iV,xk,aB,reduceIte,Nat.reduceEqDiff,e4,gK,AC.fz_ptr]
  ·simp only[iV,xk,aB,reduceIte,Nat.reduceEqDiff,e5,gK,AC.fz_ptr]
  ·simp[ww]
  ·simp[ww,h6,htk]
  ·have h1:i≠1:=by omega
   have h2:i≠2:=by omega
   have h5:hpOf [mO,Blk.arr 1 (List.map (λx=>List.map AC.d x) (encI T)),Blk.box [AC.msl 1 1 0 6,AC.d (D.sl true 2 []),AC.d (D.sl true 1 []),AC.d (D.sl true 5 []),AC.d (D.sl true 5 [])]] i=.non:=wK (by simp;omega);simp[ww,h1,h2,h5]
 simp[hc5,e2,e3,e4,e5,m0,m2,mn];refine gM (λr5=>gM (λq5=>?_) (λq5=>?_)) (λr5=>?_)
 ·simp at r5;have hw:IntKind.i64.wrap ((a.fn.length:Int)+b.fn.length)=(a.fn.length:Int)+b.fn.length:=wI;have q5':0<a.fn.length+b.fn.length:=by
   rw[hw]at q5;simp at q5;omega
  refine gQ (EL a Ma.fn_len) ?_;simp[e2,e3,e4,e5,m0,m2,mn];refine gQ (EL b Mb.fn_len) ?_;simp[m0,m2,mn,e2,e3,e4,e5];refine gQ (H.H2 q5') ?_;simp[m0,m2,mn,e2,e3,e4,e5];refine gQ (H.H3 q5') ?_;simp[m0,m2,mn,e2,e3,e4,e5];refine gP [2] (PM (.sl false 1 (encI T)) (.sl false 2 (iI (oZ a.needs b.needs))) (.sl true 1 []) (.sl true 5 []) rfl (v (jO b).1 (jO a).1) (v (jO a).2 (jO b).2)) (by simp[m2]) ?_;simp[m0,m2,mn,e2,e3,e4,e5];refine⟨by decide,?_⟩;simp[r5,q5',e2,e3,e4,e5,m0,m2,mn]
 ·simp at r5;have hw:IntKind.i64.wrap ((a.fn.length:Int)+b.fn.length)=(a.fn.length:Int)+b.fn.length:=wI;have q5':¬0<a.fn.length+b.fn.length:=by
   rw[hw]at q5;simp at q5;omega
  simp[r5,q5',e2,e3,e4,e5,m0,m2,mn]
 ·simp at r5;simp[r5,e2,e3,e4,e5,m0,m2,mn]
theorem zEC{v:gY->gY->gY}{a b:gY}(H:yn v a b)(q4:iE a 4≠0)(r4:iE (jG v a b) 4≠0):gU Pg 64 [.agg a.enc,.agg b.enc] (.agg (jG v a b).enc):=by
 have Ma:=H.Ma;have Mb:=H.Mb;have sa:=H.sa;have sb:=H.sb;refine Oe (by simp) λo c hN hp=>?_;have hL:(lG a.tags b.tags).length=6:=GK Ma.tags Mb.tags;unfold J6;simp;refine gN [] GX ?_;simp;refine cmp0 hp Ma Mb (by simp) λS0 e2 e3 e4 e5=>?_;have ha4:a.tags[4]?=some (iE a 4):=za Ma.tags (by omega);have hc4:(lG a.tags b.tags)[4]?=some (iE (jG v a b) 4):=za hL (by omega);have hc5:(lG a.tags b.tags)[5]?=some (iE (jG v a b) 5):=za hL (by omega);have hE:(jG v a b).enc=[.sl false 1 (encI (lG a.tags b.tags)),.sl false 2 (iI (jG v a b).needs),.sl false 1 (encS (jG v a b).names),.sl false 5 ((jG v a b).fields.map gY.enc),.sl false 5 ((jG v a b).fn.map gY.enc)]:=gY.enc_eq _;have hneeds:(jG v a b).needs=uW a b:=rfl;have hnames:(jG v a b).names=if iE (jG v a b) 4=0 then(rf v a b).map (·.1)else []:=rfl;have hfields:(jG v a b).fields=if iE (jG v a b) 4=0 then(rf v a b).map (·.2)else []:=rfl;have hfn:=PQ H;rw[hE,hneeds,hnames,hfields,hfn];unfold uW;clear hE hneeds hnames hfields hfn;have h6:6<=(lG a.tags b.tags).length:=by omega
 have hnn:a.needs.length<=1073741824/\b.needs.length<=1073741824:=⟨by have:=sa.needs;omega,by have:=sb.needs;omega⟩
 have hfl:a.fn.length<=2/\b.fn.length<=2:=⟨by have:=Ma.fn_len;omega,by have:=Mb.fn_len;omega⟩
 generalize lG a.tags b.tags=T at*
 have htk:(encI T).take 6=encI T:=aG (by simp[hL]);simp;refine fT [1] ?_;simp[iV,h6,htk,e2,e3,e4,e5];refine gQ (PN a.needs hnn.1) ?_;rw[aB q4,aB r4,aB r4];simp[iV,ha4,hc4,h6,htk,r4,q4,e2,e3,e4,e5];refine fT [] ?_;simp only[yw]
 refine St.forget (F:=w_ Pg c _ _ _) (λT' M=>Abs.look T' 2=.c (.d (.rp a.enc 0))/\Abs.look T' 3=.c (.d (.rp b.enc 0))/\Abs.look T' 4=.c (.ptr 0 0)/\Abs.look T' 5=.c (.ptr 2 0)/\
  M 0=mO/\M 2=.box [.d (.sl false 1 (encI T)),.d (.sl false 2 (iI a.needs)),.d (.sl true 1 []),.d (.sl true 5 []),.d (.sl true 5 [])]/\∀i,3<=i->M i=.non) ?_ λT' M ⟨e2,e3,e4,e5,m0,m2,mn⟩=>?_
 ·refine⟨?_,?_,?_,?_,?_,?_,λi hi=>?_⟩
  ·simp only[iV,xk,aB,reduceIte,Nat.reduceEqDiff,e2,gK,AC.fz_d]
  ·simp only[iV,xk,aB,reduceIte,Nat.reduceEqDiff,e3,gK,AC.fz_d]
  ·simp only[iV,xk,aB,reduceIte,Nat.reduceEqDiff,e4,gK,AC.fz_ptr]
  ·simp only[iV,xk,aB,reduceIte,Nat.reduceEqDiff,e5,gK,AC.fz_ptr]
  ·simp[ww]
  ·simp[ww,h6,htk]
  ·have h1:i≠1:=by omega
   have h2:i≠2:=by omega
   have h5:hpOf [mO,Blk.arr 1 (List.map (λx=>List.map AC.d x) (encI T)),Blk.box [AC.msl 1 1 0 6,AC.d (D.sl true 2 []),AC.d (D.sl true 1 []),AC.d (D.sl true 5 []),AC.d (D.sl true 5 [])]] i=.non:=wK (by simp;omega);simp[ww,h1,h2,h5]
 simp[hc5,e2,e3,e4,e5,m0,m2,mn];refine gM (λr5=>gM (λq5=>?_) (λq5=>?_)) (λr5=>?_)
 ·simp at r5;have hw:IntKind.i64.wrap ((a.fn.length:Int)+b.fn.length)=(a.fn.length:Int)+b.fn.length:=wI;have q5':0<a.fn.length+b.fn.length:=by
   rw[hw]at q5;simp at q5;omega
  refine gQ (EL a Ma.fn_len) ?_;simp[e2,e3,e4,e5,m0,m2,mn];refine gQ (EL b Mb.fn_len) ?_;simp[m0,m2,mn,e2,e3,e4,e5];refine gQ (H.H2 q5') ?_;simp[m0,m2,mn,e2,e3,e4,e5];refine gQ (H.H3 q5') ?_;simp[m0,m2,mn,e2,e3,e4,e5];refine gP [2] (PM (.sl false 1 (encI T)) (.sl false 2 (iI a.needs)) (.sl true 1 []) (.sl true 5 []) rfl (v (jO b).1 (jO a).1) (v (jO a).2 (jO b).2)) (by simp[m2]) ?_;simp[m0,m2,mn,e2,e3,e4,e5];refine⟨by decide,?_⟩;simp[r5,q5',e2,e3,e4,e5,m0,m2,mn]
 ·simp at r5;have hw:IntKind.i64.wrap ((a.fn.length:Int)+b.fn.length)=(a.fn.length:Int)+b.fn.length:=wI;have q5':¬0<a.fn.length+b.fn.length:=by
   rw[hw]at q5;simp at q5;omega
  simp[r5,q5',e2,e3,e4,e5,m0,m2,mn]
 ·simp at r5;simp[r5,e2,e3,e4,e5,m0,m2,mn]
theorem zwD{v:gY->gY->gY}{a b:gY}(H:yn v a b):gU Pg 64 [.agg a.enc,.agg b.enc] (.agg (jG v a b).enc):=by
 by_cases q4:iE a 4=0
 ·by_cases r4:iE (jG v a b) 4=0
  ·exact zEA H q4 r4
  ·exact zEB H q4 r4
 ·exact zEC H q4 (by rw[Ct H.Ma H.Mb,aB q4];exact q4)
end Go.Gr.P
namespace Go.Gr.P
open Go.Abs Go.Proofs
theorem Je:∀(n:Nat) {a b:gY},qF n a->qF n b->iY a=true->iY b=true->mZ 536870912 a->mZ 536870912 b->gU Pg 64 [.agg a.enc,.agg b.enc] (.agg (nD n a b).enc)
|0,a,b,ia,ib,ma,mb,sa,sb=>by
 have ea:a=idC:=ia;have eb:b=idC:=ib;have e:nD 0 a b=jG (nD 0) a b:=by rw[ea,eb];exact(JE 1).symm
 rw[e];refine zwD ⟨(uq _).1 ma,(uq _).1 mb,rfl,λk=>?_,JJ sa,JJ sb,λk hk=>?_,λh=>?_,λh=>?_⟩
 ·rw[ea,eb];exact⟨rfl,rfl⟩
 ·rw[ea]at hk;cases hk
 ·rw[ea,eb]at h;simp[idC,gY.fn]at h
 ·rw[ea,eb]at h;simp[idC,gY.fn]at h
|n+1,a,b,ia,ib,ma,mb,sa,sb=>by
 have Ma:=(uq _).1 ma;have Mb:=(uq _).1 mb;refine zwD ⟨Ma,Mb,JE n,λk=>⟨(Bd n _ (z8 ia Ma.len k) (Ma.field k)).1,(Bd n _ (z8 ib Mb.len k) (Mb.field k)).2⟩,JJ sa,JJ sb,λk _ _=>?_,λ_=>?_,λ_=>?_⟩
 ·exact Je n (z8 ia Ma.len k) (z8 ib Mb.len k) (Ma.field k) (Mb.field k) (JI sa Ma.len k) (JI sb Mb.len k)
 ·exact Je n (ut ib).1 (ut ia).1 Mb.pair.1 Ma.pair.1 (Be sb).1 (Be sa).1
 ·exact Je n (ut ia).2 (ut ib).2 Ma.pair.2 Mb.pair.2 (Be sa).2 (Be sb).2
theorem zJi(n:Nat){a b:gY}(ia:qF n a)(ib:qF n b)(sa:mZ 536870912 a)(sb:mZ 536870912 b):gU Pg 37 [.agg a.enc,.agg b.enc] (.agg (JL n a b).enc):=by
 refine zxl (by simp) λo c hN hp=>?_;unfold ZB JL;simp;refine gQ (PK a) ?_;simp;apply gM<;>intro h1
 ·simp at h1;refine gQ (PK b) ?_;simp;apply gM<;>intro h2
  ·simp at h2;simp[h2,xZ,gY.enc,gY.encs]
  ·simp at h2;refine gQ (Je n ia ib h1 h2 sa sb) ?_;simp[h1,h2]
 ·simp at h1;simp[h1,xZ,gY.enc,gY.encs]
theorem Cx(t:gT):gU Pg 97 [.agg t.enc] (.one (.bool (decide (t.kind=0)))):=by
 refine zgI (by simp) λo c hN hp=>?_;unfold Yy;simp
def iH(t:gT):Int:=if t.kind<1\/6<t.kind then -1 else t.kind-1
theorem Ce(t:gT):gU Pg 170 [.agg t.enc] (.one (.int .i64 (iH t))):=by
 refine zj4 (by simp) λo c hN hp=>?_;unfold ZU;simp;refine gM (λh=>gM (λh2=>?_) (λh2=>?_)) (λh=>?_)
 ·simp at h h2;unfold iH;rw[aC (by omega)]
 ·simp at h h2;unfold iH;rw[aB (by omega)];exact wI
 ·simp at h;unfold iH;rw[aC (by omega)]
end Go.Gr.P
namespace Go.Gr.P
open Go.Abs Go.Proofs List
mutual
def kg:gT->gT->Bool
|.mk k n s l,.mk k' n' s' l'=>decide (k=k')&&(decide (n=n')&&(decide (s=s')&&qM l l'))
def qM:List gT->List gT->Bool
|[],[]=>true
|a::l,b::k=>kg a b&&qM l k
|_,_=>false
end
theorem FE:∀(a b:List gT),qM a b=lD kg a b
|[],[]=>by simp[qM,lD]
|[],_::_=>by simp[qM,lD]
|_::_,[]=>by simp[qM,lD]
|a::l,b::k=>by simp[qM,lD,FE l k]
theorem MG(a b:gT):kg a b=(decide (a.kind=b.kind)&&(decide (a.name=b.name)&&(decide (a.names=b.names)&&lD kg a.kids b.kids))):=by
 cases a;cases b;simp only[kg,FE];rfl
theorem ziC(a b:List gT)(g:FuncId)(caps:List D)(q:gT->gT->Bool)(H:∀x,x∈a->∀y,gU Pg g (.agg x.enc::.agg y.enc::caps.map .one) (.one (.bool (q x y)))):
  gU Pg 144 [.one (.sl false 4 (a.map gT.enc)),.one (.sl false 4 (b.map gT.enc)),.one (.fn (.func g) caps)] (.one (.bool (lD q a b))):=by
 refine zaX (by simp) λo c hN hp=>?_;have hl:a.length<=zah:=by have:=o.1;simp only[DV.ok,D.ok]at this;simpa using this.1
 unfold zah at hl;unfold Zg;simp;apply gM<;>intro h
 ·simp at h;exact Cf q (by omega)
 ·simp at h;refine fP gy hp Ow [17] (λj:Nat=>j<=a.length/\lD q (a.drop j) (b.drop j)=lD q a b) (λj=>[.c (.d (.int .i64 j))]) (λ_=>[]) (λj=>a.length-j) 0 [] (by simp) (by simp[Ow]) λj ⟨h1,h2⟩=>?_;unfold Zf Ow;simp;apply gM<;>intro h
  ·have hj:j<a.length:=by simpa using h
   have hj':j<b.length:=by omega
   rw[aD hj,aD hj',lD]at h2;simp[aA hj,aA hj'];refine gQ (H _ (aR hj) _) ?_;simp;apply gM<;>intro h
   ·simp at h;rw[h,Bool.false_and]at h2;exact h2.symm
   ·simp at h;rw[h,Bool.true_and]at h2;exact fF (j+1) [] ⟨by omega,h2⟩ (by omega) (by simp;exact wI)
  ·have hj:j=a.length:=by simp at h;omega
   subst hj;rw[aO,bE (by omega)]at h2;rw[<-h2];try rfl
theorem zme(a b:gT)(ih:∀x,x∈a.kids->∀y,gU Pg 96 [.agg x.enc,.agg y.enc] (.one (.bool (kg x y)))):gU Pg 96 [.agg a.enc,.agg b.enc] (.one (.bool (kg a b))):=by
 have e:=MG a b;refine zjo (by simp) λo c hN hp=>?_;unfold ZR;simp;refine gM (λh1=>gM (λh2=>?_) (λh2=>?_)) (λh1=>?_)
 ·refine gQ (Zw _ _) ?_;generalize decide (a.names=b.names)=p3 at e⊢;simp;apply gM<;>intro h3
  ·refine gQ (ziC _ _ 96 [] kg λx hx y=>ih x hx y) ?_;simp at h1 h2;simp[e,h1,h2,h3]
  ·simp at h3;simp[e,h3]
 ·simp at h2;simp[e,h2]
 ·simp at h1;simp[e,h1]
mutual
theorem Jf:∀(a b:gT),gU Pg 96 [.agg a.enc,.agg b.enc] (.one (.bool (kg a b)))
|.mk k n s l,b=>zme _ b λx hx y=>zis l x hx y
theorem zis:∀(l:List gT) (x:gT),x∈l->∀y,gU Pg 96 [.agg x.enc,.agg y.enc] (.one (.bool (kg x y)))
|c::l,x,h,y=>by
 cases aN.1 h with
 |inl e=>rw[e];exact Jf c y
 |inr e=>exact zis l x e y
end
def fi{α:Type}(q:α->Bool):Nat->List α->Int
|_,[]=> -1
|j,x::l=>if q x=true then(j:Int)else fi q (j+1) l
theorem PR{α:Type}(q:α->Bool):∀(j:Nat) (l:List α),decide (0<=fi q j l)=l.any q
|_,[]=>by simp[fi]
| j,x::l=>by
 have ih:=PR q (j+1) l;simp only[fi,any_cons];split
 ·rename_i h;rw[h,fC];simp
 ·rename_i h;rw[aK]at h;rw[h,eQ];exact ih
theorem zmg(l:List gT)(g:FuncId)(caps:List D)(q:gT->Bool)(H:∀x,x∈l->gU Pg g (.agg x.enc::caps.map .one) (.one (.bool (q x)))):
  gU Pg 168 [.one (.sl false 4 (l.map gT.enc)),.one (.fn (.func g) caps)] (.one (.int .i64 (fi q 0 l))):=by
 refine zbD (by simp) λo c' hN hp=>?_;have hl:l.length<=zah:=by
  have:=o.1;simp only[DV.ok,D.ok]at this;simpa using this.1
 unfold zah at hl;unfold Ze;simp;refine fO gy hp (λj:Nat=>j<=l.length/\fi q j (l.drop j)=fi q 0 l) (λj=>[(8,.c (.d (.int .i64 j))),(7,.c (.d (.int .i64 l.length))),(0,.c (.d (.sl false 4 (l.map gT.enc)))),(1,.c (.d (.fn (.func g) caps)))]) (λ_=>[]) (λj=>l.length-j) 0 [] ⟨by simp,by simp⟩ (by simp) λj hj=>?_;unfold Zd;obtain⟨h1,h2⟩:=hj;simp;apply gM<;>intro h
 ·simp at h;have hj:j<l.length:=by omega
  simp[aA hj];rw[aD hj,fi]at h2;refine gQ (H _ (aR hj)) ?_;simp;refine gM (λh'=>?_) (λh'=>?_)
  ·rw[aC h']at h2;exact h2
  ·rw[Bool.not_true]at h';rw[aB (by rw[h'];simp)]at h2;refine fF (j+1) [] ⟨by omega,h2⟩ (by omega) ?_;simp;exact wI
 ·have hj:j=l.length:=by simp at h;omega
  rw[<-h2,hj];simp[fi]
theorem zk5(t:gT)(n:Int):gU Pg 169 [.agg t.enc,.one (.rp [.int .i64 n] 0)] (.one (.bool (decide (iH t=n)))):=by
 refine zgJ (by simp) λo c hN hp=>?_;unfold ZT;simp;refine gQ (Ce t) ?_;simp;decide
theorem BO{t:gT}(o:DV.ok (.agg t.enc)):t.names.length<=zah/\t.kids.length<=zah:=by
 rw[gT.enc_eq]at o;simp only[DV.ok,D.okL,D.ok,Di,aU]at o;exact⟨o.2.2.1.1,o.2.2.2.1.1⟩
mutual
def sI:gT->Nat
|.mk _ _ _ l=>min (mQ l 1) 201
def mQ:List gT->Nat->Nat
|[],n=>n
|t::ts,n=>if 200<n then n else mQ ts (n+sI t)
end
theorem GZ(t:gT):sI t=min (mQ t.kids 1) 201:=by cases t;rw[sI];try rfl
theorem zn6(t:gT):sI t<=201:=by rw[GZ];omega
theorem zlB{l:List gT}{n:Nat}(h:200<n):mQ l n=n:=by
 cases l with
 |nil=>rw[mQ]
 |cons d l=>rw[mQ,aC h]
theorem zlC(t:gT)(ih:∀e,e∈t.kids->gU Pg 142 [.agg e.enc] (.one (.int .i64 (sI e)))):gU Pg 142 [.agg t.enc] (.one (.int .i64 (sI t))):=by
 refine zjn (by simp) λo c hN hp=>?_;have hf:=BO o.1;unfold zah at hf;unfold ZQ;simp;have hmm:∀n:Nat,wF false (n:Int) 201=((min n 201:Nat):Int):=λn=>by unfold wF;simp;split<;>omega
 refine fO gy hp (λx:Nat × Nat=>x.1<=t.kids.length/\x.2<=401/\mQ (t.kids.drop x.1) x.2=mQ t.kids 1) (λx=>[(9,.c (.d (.int .i64 x.1))),(3,.c (.d (.int .i64 x.2))),(7,.c (.d (.sl false 4 (t.kids.map gT.enc)))),(8,.c (.d (.int .i64 t.kids.length)))]) (λ_=>[]) (λx=>t.kids.length-x.1) (0,1) [] ⟨by simp,by simp,by simp⟩ (by simp) λ⟨j,n⟩ ⟨hx1,hx3,hx2⟩=>?_;unfold ZP;simp only at hx1 hx2 hx3;simp;apply gM<;>intro h
 ·have hj:j<t.kids.length:=by simpa using h
  rw[aD hj,mQ]at hx2;simp[aA hj];apply gM<;>intro h
  ·simp at h;rw[aC (by omega)]at hx2;rw[GZ,<-hx2,hmm]
  ·simp at h;rw[aB (by omega)]at hx2;refine gQ (ih _ (aR hj)) ?_;have hle:=zn6 t.kids[j];simp;refine fF (j+1,n+sI t.kids[j]) [] ⟨by simp;omega,by simp only;omega,hx2⟩ (by simp;omega) ?_;simp;exact⟨wI,wI⟩
 ·have hj:j=t.kids.length:=by simp at h;omega
  subst hj;rw[aO,mQ]at hx2;rw[GZ,<-hx2,hmm]
mutual
theorem zi5:∀t:gT,gU Pg 142 [.agg t.enc] (.one (.int .i64 (sI t)))
|.mk k n s l=>zlC (.mk k n s l) (λe h=>zh3 l e h)
theorem zh3:∀(l:List gT) (e:gT),e∈l->gU Pg 142 [.agg e.enc] (.one (.int .i64 (sI e)))
|[],e,h=>by cases h
|d::l,e,h=>by
 cases h with
 |head=>exact zi5 d
 |tail _ h=>exact zh3 l e h
end
def hgt:Nat->gT->Nat
|0,_=>1
|n+1,t=>t.kids.foldl (λh k=>max h (hgt n k)) 0+1
theorem PT{α:Type}(f:α->Nat):∀(l:List α) (a B:Nat),a<=B->(∀x,x∈l->f x<=B)->l.foldl (λh k=>max h (f k)) a<=B
|[],a,B,h,_=>h
|x::l,a,B,h,hl=>PT f l (max a (f x)) B (by have:=hl x (by simp);omega) λy hy=>hl y (by simp[hy])
theorem zlD:∀(n:Nat) (t:gT),hgt n t<=n+1
|0,t=>aM _
|n+1,t=>by
 unfold hgt;have:=PT (hgt n) t.kids 0 (n+1) (by omega) λx _=>zlD n x;omega
theorem zh4:∀(n:Nat) (t:gT),n<=100->gU Pg 165 [.agg t.enc,.one (.int .i64 (n+1:Nat))] (.one (.int .i64 (hgt n t)))
|0,t,hn=>by
 refine ZO (by simp) λo c hN hp=>?_;unfold Oq;simp[hgt]
| n+1,t,hn=>by
 refine ZO (by simp) λo c hN hp=>?_;have hf:=BO o.1;unfold zah at hf;unfold Oq;have hne:¬((n:Int)+1+1=1):=by omega
 simp[hne];refine fO gy hp (λx:Nat × Nat=>x.1<=t.kids.length/\x.2<=n+1/\(t.kids.drop x.1).foldl (λh k=>max h (hgt n k)) x.2=t.kids.foldl (λh k=>max h (hgt n k)) 0) (λx=>[(13,.c (.d (.int .i64 x.1))),(5,.c (.d (.int .i64 x.2))),(1,.c (.d (.int .i64 (n+1+1:Nat)))),(11,.c (.d (.sl false 4 (t.kids.map gT.enc)))),(12,.c (.d (.int .i64 t.kids.length)))]) (λ_=>[]) (λx=>t.kids.length-x.1) (0,0) [] ⟨by simp,by simp,by simp⟩ (by simp) λ⟨j,r⟩ ⟨hx1,hx3,hx2⟩=>?_;unfold ZN;simp only at hx1 hx2 hx3;simp;apply gM<;>intro h
 ·have hj:j<t.kids.length:=by simpa using h
  rw[aD hj,foldl_cons]at hx2;simp[aA hj];have hw:IntKind.i64.wrap ((n:Int)+1)=((n+1:Nat):Int):=by rw[wI];omega
  rw[hw];refine gQ (zh4 n t.kids[j] (by omega)) ?_;have hle:=zlD n t.kids[j];have hmm:wF true (r:Int) (hgt n t.kids[j])=((max r (hgt n t.kids[j]):Nat):Int):=by unfold wF;simp;split<;>omega
  simp;refine fF (j+1,max r (hgt n t.kids[j])) [] ⟨by simp;omega,by simp only;omega,hx2⟩ (by simp;omega) ?_;simp[hmm];exact wI
 ·have hj:j=t.kids.length:=by simp at h;omega
  subst hj;rw[aO,foldl_nil]at hx2;simp only[hgt,<-hx2];simp;rw[wI]
theorem FD(t:gT):gU Pg 141 [.agg t.enc] (.one (.int .i64 (hgt 16 t))):=by
 refine zhB (by simp) λo c hN hp=>?_;unfold ZM;simp;refine gQ (zh4 16 t (by omega)) ?_;simp
end Go.Gr.P
