/- Texts of ours, joined and written short by a program of ours. -/
import Derived.Test.YtlfjlokfciejnaaGreatDoorJ17
import Derived.Test.YtlfjlokfciejnaaGreatDoorSrt
import Derived.Test.YtlfjlokfciejnaaGreatDoorLayK
set_option maxRecDepth 20000
set_option maxHeartbeats 4000000
set_option linter.all false
namespace Go.Gr.P
open Go.Abs Go.Proofs Go.RowKit Go.Maps Go.Sort Go.Shelf
def zFU(m:Nat):AnyZ.SortsIn Tryz.prog Tryz.sorted150_ren Fence.wide m:=
 ⟨fun blk off cap ss W hH hblk hsz=>callsIn_wide.2 (AnyM.slices_Sort_string Tryz.sort174 blk off cap ss W hH hblk hsz),
  fun p cap W=>callsIn_wide.2 (AnyM.slices_Sort_string_none Tryz.sort174 p cap W)⟩
def zti{H:Type}(Bm b nn:Nat)(D0:DataW H)(R:Value->Option (DataW H × List MemPlace))(w:World)(hB:Bm<w.heap.size)(hm:w.cell? ⟨Bm,0,none⟩=some (.map (some b)))(hown:w.ownsMap Tryz.prog 9 R b nn D0)(hmax:Maps.size D0<=maxLen)(hbytes:Maps.size D0*16<=140737488355328):
  Calls Tryz.prog 150 #[.func (.func 175) #[] #[.pointer (some ⟨Bm,0,none⟩)]] w fun e w'=>∃(v:Value) (ss:List (List UInt8)),e=.returned v/\ss.Perm (strKeys D0)/\
   w'.ownsRow w.heap.size 9 1 v ss.length ((ss.mergeSort (fun x y=>decide (x<=y))).map encStr)/\(v=.slice none 0 0↔ss=[])/\Below w.heap.size w w':=by
 refine(callsIn_wide (n:=5)).1 ?_
 have hseq:SeqGives Fence.wide 2 Tryz.prog 175 #[.pointer (some ⟨Bm,0,none⟩)] encStr (fun ss=>ss.Perm (strKeys D0)) (Maps.size D0) w:=
  AnyZ.keys_gives (ρ:=Tryz.keys151_ren) {Tryz.keys151 with} Fence.wide _ trivial rfl (by omega) Bm b nn D0 _ hB hm hown
 exact AnyZ.sorted_in Tryz.sorted150 Fence.wide 5 trivial trivial trivial trivial rfl (by omega) (zFU _) (enters_of Tryz.func174 (by kernel_rfl) rfl) 175 #[.pointer (some ⟨Bm,0,none⟩)] trivial (enters_of Tryz.func175 (by kernel_rfl) rfl) _ _ hmax hbytes _ hseq
end Go.Gr.P
namespace Go.Gr.P
open Go.Abs Go.Proofs Go.RowKit List
def mapC(l:List (fC × Coe)):List (D × AV):=l.map fun x=>(.str x.1,.ag (x.2.enc.map .d))
@[simp] theorem zG7(f:Nat->Nat)(l:List (fC × Coe)):(mapC l).map (fun e=>(e.1,AV.ren f e.2))=mapC l:=by simp[mapC]
def zbp{n:Nat}{l:List (fC × Coe)}{a:D}{b:AV}(h:(a,b)∈mapC l):AV.lt n b=true:=by
 simp only[mapC,mem_map]at h
 obtain⟨x,_,e⟩:=h
 cases e
 simp
def zkw{f:Nat->Bool}{l:List (fC × Coe)}(a:D)(b:AV)(h:(a,b)∈mapC l):AV.lv f b=true:=by
 simp only[mapC,mem_map]at h
 obtain⟨x,_,e⟩:=h
 cases e
 simp
@[simp] theorem ztw(l:List (fC × Coe)):(mapC l).map (·.1)=(l.map (·.1)).map .str:=by simp[mapC]
def ztx(l:List (fC × Coe)):MCall Pg 151 [.c (.map 0)] [.map (mapC l)] (.c (.fn (.func 175) [.ptr 1 0])) [.map (mapC l),.box [.map 0]]:=by
 refine zdz ⟨by simp,by simp,by simp,by simp,by simp,by simp[live],by simp[live];exact zkw⟩ fun ts hts ok hb c hN hp=>?_
 obtain⟨t,rfl⟩:=za6 hts
 unfold zbX
 simp
 exact fI [0,2] [1]
def zB2{h:PH}{ρ:RM}{es:List (D × AV)}{w:World}{g:FuncId}{argsC:List Value}(K:HRel h ρ (hpOf [.map es,.box [.map 0]]) w.heap)(r:zas h ρ [.c (.fn (.func g) [.ptr 1 0])] argsC):
  ∃(p0:Nat × Nat) (B:Nat),argsC=[.func (.func g) #[] #[.pointer (some ⟨B,0,none⟩)]]/\B<w.heap.size/\w.cell? ⟨B,0,none⟩=some (.map (some p0.1))/\zaH h ρ p0 (.map es) w.heap:=by
 match argsC,r with
 | [v],r=>
  simp only[zas,RepV,RepC,and_true]at r
  obtain⟨vs,e1,e2,e3⟩:=r
  match vs,e2,e3 with
  | [u],_,e3=>
   simp only[zae,RepC,and_true]at e3
   obtain⟨_,p1,q1,q2⟩:=e3
   have hb:=K.own 1 p1 q1
   simp[hpOf,zaH]at hb
   obtain⟨us,⟨T,b1⟩,b2,b3⟩:=hb
   match us,b2,b3 with
   | [x],_,b3=>
    simp only[zae,RepC,and_true]at b3
    obtain⟨_,p0,c1,c2⟩:=b3
    have h0:=K.own 0 p0 c1
    refine⟨p0,p1.1,by rw[e1,q2],?_,?_,by simpa[hpOf]using h0⟩
    ·rcases aW p1.1 w.heap.size with g|g
     ·exact g
     ·rw[aj g]at b1;cases b1
    ·simp[World.cell?,b1,c2]
def zpB(l:List (fC × Coe))(hn:(l.map (·.1)).Nodup)(hl:l.length<=1073741824):
  MCall Pg 150 [.c (.fn (.func 175) [.ptr 1 0])] [.map (mapC l),.box [.map 0]] (.c (.d (.sl false 1 (encS (zbs (l.map (·.1))))))) [.map (mapC l),.box [.map 0]]:=by
 have hlen:(zbs (l.map (·.1))).length=l.length:=by simp[zbs]
 have hm:(140737488355328:Nat)<=maxLen:=by decide
 have e:encS (zbs (l.map (·.1)))=((zbs (l.map (·.1))).map D.str).map fun d=>[d]:=by simp[encS]
 rw[e]
 refine MCall.row (by decide+kernel) (zfC (by simp)) (by simp[live];exact zkw) (by simp[hlen,zaf];omega) fun h ρ w argsC K r=>?_
 obtain⟨p0,B,rfl,hB,hc,hmap⟩:=zB2 K r
 obtain⟨D0,o1,o2,o3⟩:=zGo (P:=Tryz.prog) (k:=9) Tryz.underlying9 (ztw l) hn (by simpa using hl) hmap
 have o2':Maps.size D0=l.length:=by rw[o2];simp
 refine(zti B p0.1 _ D0 zfD w hB hc o1 (by omega) (by omega)).mono fun e w' q=>?_
 obtain⟨v,ss,q1,q2,q3,_,q5⟩:=q
 have q6:ss.Perm ((l.map (·.1)).map fun s=>s.data.toList):=q2.trans o3
 have q7:ss.mergeSort (fun x y=>decide (x<=y))=((l.map (·.1)).map fun s=>s.data.toList).mergeSort fun x y=>decide (x<=y):=mergeSort_of_perm q6
 obtain⟨ms,ck,_,g2,_⟩:=hmap
 obtain⟨_,hsz⟩:=zl2 (P:=Tryz.prog) (k:=9) (ztw l) g2
 have hss:ss.length=l.length:=by simpa using q6.length_eq
 refine⟨v,_,9,q1,fun h=>zoC fun x hx=>?_,by simpa[hss,hlen,q7]using q3,q5⟩
 have hx':=(mergeSort_perm _ _).mem_iff.1 hx
 obtain⟨s,hs,rfl⟩:=ai.1 hx'
 rw[bu]
 exact hsz s hs
end Go.Gr.P
namespace Go.Gr.P
open Go.Abs Go.Proofs List
def zg2{k:fC}:∀{l:List (fC × Coe)} (i:Nat),k∈l.map (·.1)->∃j,mfind 1 (.str k) (mapC l) i=some (some (j,.ag ((atC l k).enc.map .d)))
 |[],i,h=>by simp at h
 | x::l,i,h=>by
  by_cases e:k=x.1
  ·exact⟨i,by simp[mapC,atC,e]⟩
  ·have:k∈l.map (·.1):=by
    simp only[map_cons,aM]at h
    exact h.resolve_left e
   obtain⟨j,hj⟩:=zg2 (i+1) this
   simp only[mapC]at hj
   exact⟨j,by simp[mapC,atC,e,hj]⟩
def zz9(a b f:D)(l:List (fC × Coe))(hn:(l.map (·.1)).Nodup)(hl:l.length<=1073741824):
  MCall Pg 105 [.c (.ptr 0 0),.c (.map 1)] [.box [.d a,.d b,.d (.sl true 1 []),.d (.sl true 5 []),.d f],.map (mapC l)] (.tup [])
   [.box [.d a,.d b,.msl 1 2 0 (outC l (zbs (l.map (·.1)))).length,.msl 5 3 0 (outC l (zbs (l.map (·.1)))).length,.d f],.map (mapC l),
    .arr 1 ((encS ((outC l (zbs (l.map (·.1)))).map (·.1))).map (·.map .d)),.arr 5 (((outC l (zbs (l.map (·.1)))).map (·.2.enc)).map (·.map .d))]:=by
 refine ziE ⟨by simp,by simp,by simp,by simp,by simp,by simp,by simp[live];exact zkw⟩ fun ts hts ok hb c hN hp=>?_
 obtain⟨t0,t1,rfl⟩:=zqy hts
 unfold zft
 simp
 refine fQ [.c 0 2,.c 0 3] ?_
 simp
 refine gM [1] (ztx l) (by simp;exact fun a b h=>zbp h) ?_
 simp
 refine gM [1,6] (zpB l hn hl) (by simp;exact fun a b h=>zbp h) ?_
 simp
 have hks:(zbs (l.map (·.1))).length<=1073741824:=by simpa[zbs]using hl
 have hmem:∀k,k∈zbs (l.map (·.1))->k∈l.map (·.1):=fun k hk=>zjm.1 hk
 generalize zbs (l.map (·.1))=ks at*
 refine fM zaa hp zb1 [11] (fun j:Nat=>j<=ks.length) (fun j=>[.c (.d (.int .i64 j))])
  (fun j=>[.box [.d a,.d b,.msl 1 2 0 (outC l (ks.take j)).length,.msl 5 3 0 (outC l (ks.take j)).length,.d f],.map (mapC l),.arr 1 ((encS ((outC l (ks.take j)).map (·.1))).map (·.map .d)),.arr 5 (((outC l (ks.take j)).map (·.2.enc)).map (·.map .d)),.pin t0 0,.pin t1 1])
  (fun j=>ks.length-j) 0 [0,1,4,5,2,3] (by simp) (by simp[zb1,outC,encS];exact fun a b h=>zbp h) fun j h1=>?_
 unfold zey zb1
 simp
 apply gI<;>intro h
 ·have hj:j<ks.length:=by simpa using h
  simp[aA hj]
  obtain⟨i,hi⟩:=zg2 (l:=l) 0 (hmem _ (aS hj))
  simp[hi]
  refine gN (zdd _) ?_
  have hs:=zsy (l:=l) hj
  have hlen:=zvh l (ks.take j)
  rw[bI]at hlen
  generalize atC l ks[j]=d at hs⊢
  simp
  apply gI<;>intro h
  ·simp at h
   rw[h]at hs
   simp at hs
   refine⟨by omega,by omega,by decide,?_⟩
   refine fD (j+1) [0,1,7,8,4,5] (by omega) (by omega) ?_
   simp[hs]
   refine⟨wI,fun a b h=>zbp h,?_,?_⟩
   ·rw[aF (by simp)]<;>simp[encS]
   ·rw[aF (by simp)]<;>simp[Function.comp_def]
  ·simp at h
   rw[h]at hs
   simp at hs
   refine fD (j+1) [0,1,2,3,4,5] (by omega) (by omega) ?_
   simp[hs]
   exact⟨wI,fun a b h=>zbp h⟩
 ·have hj:j=ks.length:=by simp at h;omega
  subst hj
  simp
  exact fI [0,1,2,3] [4,5]
end Go.Gr.P
namespace Go.Gr.P
open Go.Abs
section
variable {v:Coe->Coe->Coe} {a b:Coe}
end
end Go.Gr.P
namespace Go.Gr.P
open Go.Abs
section
variable {a b c:Coe}
end
end Go.Gr.P
namespace Go.Gr.P
open Go.Abs Go.Proofs List
def zpp(l:List (fC × Int))(hl:l.length<=1073741824):PCall Pg 103 [.one (.sl false 2 (encN l))] (.one (.sl false 2 (encN l))):=by
 refine zfv (by simp) fun o c hN hp=>?_
 unfold zbw
 cases l with
 |nil=>
  simp[encN]
  refine⟨fQ [] ?_,fQ [] ?_⟩<;>simp
 |cons x l=>
  simp[encN]
  refine⟨by simp at hl;omega,?_⟩
  refine fQ [] ?_
  simp
  rw[aF (by simp)]
def zjr(k:fC)(d:Coe):∀(l:List (fC × Coe)) (i:Nat),(∃j w,mfind 1 (.str k) (mapC l) i=some (some (i+j,w))/\(mapC l).set j (.str k,.ag (d.enc.map .d))=mapC (setC l k d))\/
  (mfind 1 (.str k) (mapC l) i=some none/\mapC l++[(.str k,.ag (d.enc.map .d))]=mapC (setC l k d))
 |[],i=>.inr ⟨rfl,rfl⟩
 | x::l,i=>by
  by_cases e:k=x.1
  ·refine .inl ⟨0,.ag (x.2.enc.map .d),?_,?_⟩
   ·simp[mapC,e]
   ·simp[mapC,setC,e]
  ·have ih:=zjr k d l (i+1)
   simp only[mapC]at ih
   rcases ih with⟨j,w,h1,h2⟩|⟨h1,h2⟩
   ·refine .inl ⟨j+1,w,?_,?_⟩
    ·simp[mapC,e,h1];omega
    ·simp[mapC,setC,e,h2]
   ·refine .inr ⟨?_,?_⟩
    ·simp[mapC,e,h1]
    ·simpa[mapC,setC,e]using h2
def zeR{k:fC}:∀{l:List (fC × Coe)} (i:Nat),k∉l.map (·.1)->mfind 1 (.str k) (mapC l) i=some none
 |[],i,_=>rfl
 |x::l,i,h=>by
  simp only[map_cons,aM,dP]at h
  have ih:=zeR (l:=l) (i+1) h.2
  simp only[mapC]at ih
  simp[mapC,h.1,ih]
def cmp0{c:Ctx}(hp:c.pure){a b:Coe}(Ma:May a)(Mb:May b){Q:Exit->St->Prop}{S:St}{g}
  (h0:Match [0,1,2] S ((23,.c (.d (.int .i64 0)))::(21,.c (.d (.sl false 1 (encI a.tags))))::(22,.c (.d (.int .i64 a.tags.length)))::znn a b) [box5,.arr 1 ((encI six0).map (·.map .d)),.box [.msl 1 1 0 6,.d (.sl true 2 []),.d (.sl true 1 []),.d (.sl true 5 []),.d (.sl true 5 [])]])
  (hQ:∀T,Abs.look T 2=.c (.d (.rp a.enc 0))->Abs.look T 3=.c (.d (.rp b.enc 0))->Abs.look T 4=.c (.ptr 0 0)->Abs.look T 5=.c (.ptr 2 0)->
   Q (.exit 0) ⟨T,hpOf [box5,.arr 1 ((encI (zaX a.tags b.tags)).map (·.map .d)),.box [.msl 1 1 0 6,.d (.sl true 2 []),.d (.sl true 1 []),.d (.sl true 5 []),.d (.sl true 5 [])]],3⟩):lw_ Pg c zee Q g S:=by
 have hL:(zaX a.tags b.tags).length=6:=zhf Ma.tags Mb.tags
 refine fK zaa hp (fun j:Nat=>j<=6) (fun j=>(23,.c (.d (.int .i64 j)))::(21,.c (.d (.sl false 1 (encI a.tags))))::(22,.c (.d (.int .i64 a.tags.length)))::znn a b)
  (fun j=>[box5,.arr 1 ((encI (upT (zaX a.tags b.tags) j)).map (·.map .d)),.box [.msl 1 1 0 6,.d (.sl true 2 []),.d (.sl true 1 []),.d (.sl true 5 []),.d (.sl true 5 [])]])
  (fun j=>6-j) 0 [0,1,2] (by simp) h0 fun j h1=>?_
 unfold zee
 simp
 apply gI<;>intro h
 ·have hj:j<6:=by have:=Ma.tags;simp at h;omega
  have hja:j<a.tags.length:=by rw[Ma.tags];exact hj
  have hjb:j<b.tags.length:=by rw[Mb.tags];exact hj
  have hup:(upT (zaX a.tags b.tags) j).length=6:=by simp[upT,hL];omega
  have hju:j<(upT (zaX a.tags b.tags) j).length:=by omega
  have hset:∀x,x=(zaX a.tags b.tags)[j]'(by omega)->(encI (upT (zaX a.tags b.tags) j)).set j [.int .i64 x]=encI (upT (zaX a.tags b.tags) (j+1)):=fun x e=>by
   rw[e,<-ztW,zxf hL hj]
  have hval:(zaX a.tags b.tags)[j]'(by omega)=if a.tags[j]=0 then b.tags[j]else a.tags[j]:=by simp[zaX]
  simp[aA hja,aA hjb,aA hju]
  apply gI<;>intro h
  ·simp at h
   refine⟨by omega,?_⟩
   refine fD (j+1) [0,1,2] (by omega) (by omega) ?_
   simp
   refine⟨wI,?_⟩
   rw[<-hset b.tags[j] (by rw[hval,aC h])]
   simp[fB]
  ·simp at h
   refine⟨by omega,?_⟩
   refine fD (j+1) [0,1,2] (by omega) (by omega) ?_
   simp
   refine⟨wI,?_⟩
   rw[<-hset a.tags[j] (by rw[hval,aB h])]
   simp[fB]
 ·have hj:j=6:=by have:=Ma.tags;simp at h;omega
  subst hj
  have hup:upT (zaX a.tags b.tags) 6=zaX a.tags b.tags:=by
   unfold upT;rw[aF (by omega)];simp
  rw[hup]
  exact hQ _ (by simp) (by simp) (by simp) (by simp)
def cmp2{c:Ctx}(hp:c.pure){a b:Coe}(Ma:May a)(hal:a.names.length<=1073741824)(Tg:List Int)(N:List (fC × Int)){Q:Exit->St->Prop}{S:St}{g}
  (h0:Match [0,1,2,3] S ((65,.c (.d (.int .i64 0)))::(63,.c (.d (.sl false 1 (encS a.names))))::(64,.c (.d (.int .i64 a.names.length)))::(8,.c (.map 3))::znn a b) [box5,.dead,boxT Tg N,.map []])
  (hQ:∀T,Abs.look T 2=.c (.d (.rp a.enc 0))->Abs.look T 3=.c (.d (.rp b.enc 0))->Abs.look T 4=.c (.ptr 0 0)->Abs.look T 5=.c (.ptr 2 0)->Abs.look T 8=.c (.map 3)->
   Q (.exit 2) ⟨T,hpOf [box5,.dead,boxT Tg N,.map (mapC (a.names.zip a.fields))],4⟩):lw_ Pg c zef Q g S:=by
 refine fK zaa hp (fun j:Nat=>j<=a.names.length) (fun j=>(65,.c (.d (.int .i64 j)))::(63,.c (.d (.sl false 1 (encS a.names))))::(64,.c (.d (.int .i64 a.names.length)))::(8,.c (.map 3))::znn a b)
  (fun j=>[box5,.dead,boxT Tg N,.map (mapC ((a.names.zip a.fields).take j))])
  (fun j=>a.names.length-j) 0 [0,1,2,3] (by simp) (by simpa[mapC]using h0) fun j h1=>?_
 unfold zef
 simp
 apply gI<;>intro h
 ·simp at h
  have hj:j<a.names.length:=by omega
  have hj':j<a.fields.length:=by have:=Ma.len;omega
  simp[aA hj,aA hj']
  have hz:j<(a.names.zip a.fields).length:=by simp;omega
  have hk:a.names[j]∉((a.names.zip a.fields).take j).map (·.1):=by
   rw[zs9 Ma.len]
   exact zgu (zbc Ma.names) hj
  simp[zeR 0 hk]
  refine fD (j+1) [0,1,2,3] (by omega) (by omega) ?_
  simp
  refine⟨wI,?_,fun a b h=>zbp h⟩
  rw[aJ hz]
  simp[mapC]
 ·have hj:j=a.names.length:=by simp at h;omega
  subst hj
  have hz:(a.names.zip a.fields).take a.names.length=a.names.zip a.fields:=aF (by simp;omega)
  rw[hz]
  exact hQ _ (by simp) (by simp) (by simp) (by simp) (by simp)
def cmp4{c:Ctx}(hp:c.pure){v:Coe->Coe->Coe}{a b:Coe}(Ma:May a)(Mb:May b)(hbl:b.names.length<=1073741824)(hu:∀k,v idC (zaE b k)=zaE b k)
  (H1:∀k,k∈a.names->k∈b.names->PCall Pg 64 [.agg (zaE a k).enc,.agg (zaE b k).enc] (.agg (v (zaE a k) (zaE b k)).enc))
  (Tg:List Int) (N:List (fC × Int)) {Q:Exit->St->Prop} {S:St} {g}
  (h0:Match [0,1,2,3] S ((81,.c (.d (.int .i64 0)))::(79,.c (.d (.sl false 1 (encS b.names))))::(80,.c (.d (.int .i64 b.names.length)))::(8,.c (.map 3))::znn a b) [box5,.dead,boxT Tg N,.map (mapC (a.names.zip a.fields))])
  (hQ:∀T l,zpO v a b b.names.length l->Abs.look T 2=.c (.d (.rp a.enc 0))->Abs.look T 3=.c (.d (.rp b.enc 0))->Abs.look T 4=.c (.ptr 0 0)->Abs.look T 5=.c (.ptr 2 0)->Abs.look T 8=.c (.map 3)->
   Q (.exit 4) ⟨T,hpOf [box5,.dead,boxT Tg N,.map (mapC l)],4⟩):lw_ Pg c zeg Q g S:=by
 refine fK zaa hp (fun x:Nat × List (fC × Coe)=>x.1<=b.names.length/\zpO v a b x.1 x.2) (fun x=>(81,.c (.d (.int .i64 x.1)))::(79,.c (.d (.sl false 1 (encS b.names))))::(80,.c (.d (.int .i64 b.names.length)))::(8,.c (.map 3))::znn a b)
  (fun x=>[box5,.dead,boxT Tg N,.map (mapC x.2)])
  (fun x=>b.names.length-x.1) (0,a.names.zip a.fields) [0,1,2,3] ⟨by simp,zEq Ma⟩ h0 fun⟨j,l⟩ ⟨h1,hI⟩=>?_
 unfold zeg
 simp only at h1 hI
 simp
 apply gI<;>intro h
 ·have hj:j<b.names.length:=by simpa using h
  have hj':j<b.fields.length:=by have:=Mb.len;omega
  have hf:zaE b b.names[j]=b.fields[j]:=zxP hj hj' (zbc Mb.names)
  have hcon:b.names[j]∈l.map (·.1)↔b.names[j]∈a.names:=by
   rw[hI.1]
   simp only[aQ,bC]
   exact⟨fun h=>h.elim id fun h=>absurd h.1 (zgu (zbc Mb.names) hj),.inl⟩
  have hnext:=fun d hd=>zEr (d:=d) Ma Mb hj hI hd
  rw[hf]at hnext
  simp[aA hj,aA hj']
  by_cases hk:b.names[j]∈l.map (·.1)
  ·have hka:=hcon.1 hk
   have hat:atC l b.names[j]=zaE a b.names[j]:=by
    rw[hI.2 _ hk,aB (zgu (zbc Mb.names) hj)]
   obtain⟨i',hi⟩:=zg2 (l:=l) 0 hk
   rcases zjr b.names[j] b.fields[j] l 0 with⟨i,w,m1,m2⟩|⟨m1,m2⟩
   rotate_left
   ·rw[hi]at m1;cases m1
   rw[hi]at m1
   simp only[ah,bU]at m1
   obtain⟨rfl,rfl⟩:=m1
   rw[hat]at hi
   simp[hi,m2]
   have hk2:b.names[j]∈(setC l b.names[j] b.fields[j]).map (·.1):=by rw[zi9,aC hk];exact hk
   have hcall:=H1 _ hka (aS hj)
   rw[hf]at hcall
   refine gN hcall ?_
   simp
   rcases zjr b.names[j] (v (zaE a b.names[j]) b.fields[j]) (setC l b.names[j] b.fields[j]) 0 with⟨i2,w,m3,m4⟩|⟨m3,m4⟩
   rotate_left
   ·obtain⟨i3,hi3⟩:=zg2 (l:=setC l b.names[j] b.fields[j]) 0 hk2
    rw[hi3]at m3;cases m3
   simp[m2,m3,m4,ztV]
   refine⟨by decide,?_⟩
   refine fD (j+1,setC l b.names[j] (v (zaE a b.names[j]) b.fields[j])) [0,1,2,3] ⟨by simp;omega,hnext _ rfl⟩ (by simp;omega) ?_
   simp
   exact⟨wI,fun a b h=>zbp h⟩
  ·have hka:b.names[j]∉a.names:=fun h=>hk (hcon.2 h)
   rcases zjr b.names[j] b.fields[j] l 0 with⟨i,w,m1,m2⟩|⟨m1,m2⟩
   ·rw[zeR 0 hk]at m1;cases m1
   simp[m1,m2]
   have hz0:zaE a b.names[j]=idC:=zde hka
   have hu':=hu b.names[j]
   rw[hf]at hu'
   refine fD (j+1,setC l b.names[j] b.fields[j]) [0,1,2,3] ⟨by simp;omega,hnext _ (by rw[hz0,hu'])⟩ (by simp;omega) ?_
   simp
   exact⟨wI,fun a b h=>zbp h⟩
 ·have hj:j=b.names.length:=by simp at h;omega
  subst hj
  exact hQ _ l hI (by simp) (by simp) (by simp) (by simp) (by simp)
@[simp] theorem zCc:encS []=[]:=rfl
structure CmpH (v:Coe->Coe->Coe) (a b:Coe):Prop where
 Ma:May a
 Mb:May b
 v0:v idC idC=idC
 hu:∀k,v (zaE a k) idC=zaE a k/\v idC (zaE b k)=zaE b k
 sa:Small1 536870912 a
 sb:Small1 536870912 b
 H1:∀k,k∈a.names->k∈b.names->PCall Pg 64 [.agg (zaE a k).enc,.agg (zaE b k).enc] (.agg (v (zaE a k) (zaE b k)).enc)
 H2:0<a.fn.length+b.fn.length->PCall Pg 64 [.agg (zaB b).1.enc,.agg (zaB a).1.enc] (.agg (v (zaB b).1 (zaB a).1).enc)
 H3:0<a.fn.length+b.fn.length->PCall Pg 64 [.agg (zaB a).2.enc,.agg (zaB b).2.enc] (.agg (v (zaB a).2 (zaB b).2).enc)
theorem zra{v:Coe->Coe->Coe}{a b:Coe}(H:CmpH v a b):(zaz v a b).fn=if tagZ (zaz v a b) 5=0/\0<a.fn.length+b.fn.length then zbj (v (zaB b).1 (zaB a).1) (v (zaB a).2 (zaB b).2)else []:=by
 have h0:(zaz v a b).fn=if tagZ (zaz v a b) 5=0 then zbj (v (zaB b).1 (zaB a).1) (v (zaB a).2 (zaB b).2)else []:=rfl
 rw[h0]
 by_cases q:tagZ (zaz v a b) 5=0
 ·by_cases r:0<a.fn.length+b.fn.length
  ·rw[aC q,aC ⟨q,r⟩]
  ·have ea:a.fn=[]:=aT.1 (by omega)
   have eb:b.fn=[]:=aT.1 (by omega)
   have pa:zaB a=(idC,idC):=by unfold zaB;rw[ea]
   have pb:zaB b=(idC,idC):=by unfold zaB;rw[eb]
   rw[aC q,aB (fun h=>r h.2),pa,pb]
   unfold zbj
   simp[H.v0,zjn]
 ·rw[aB q,aB (fun h=>q h.1)]
theorem zzY{v:Coe->Coe->Coe}{a b:Coe}(H:CmpH v a b)(q4:tagZ a 4=0)(r4:tagZ (zaz v a b) 4=0):PCall Pg 64 [.agg a.enc,.agg b.enc] (.agg (zaz v a b).enc):=by
 have Ma:=H.Ma
 have Mb:=H.Mb
 have sa:=H.sa
 have sb:=H.sb
 refine zfs (by simp) fun o c hN hp=>?_
 have hL:(zaX a.tags b.tags).length=6:=zhf Ma.tags Mb.tags
 unfold zdD
 simp
 refine gK [] IdM ?_
 simp
 refine cmp0 hp Ma Mb (by simp) fun S0 e2 e3 e4 e5=>?_
 have ha4:a.tags[4]?=some (tagZ a 4):=zd5 Ma.tags (by omega)
 have hc4:(zaX a.tags b.tags)[4]?=some (tagZ (zaz v a b) 4):=zd5 hL (by omega)
 have hc5:(zaX a.tags b.tags)[5]?=some (tagZ (zaz v a b) 5):=zd5 hL (by omega)
 have hE:(zaz v a b).enc=[.sl false 1 (encI (zaX a.tags b.tags)),.sl false 2 (encN (zaz v a b).needs),.sl false 1 (encS (zaz v a b).names),.sl false 5 ((zaz v a b).fields.map Coe.enc),.sl false 5 ((zaz v a b).fn.map Coe.enc)]:=Coe.enc_eq _
 have hneeds:(zaz v a b).needs=zdo a b:=rfl
 have hnames:(zaz v a b).names=if tagZ (zaz v a b) 4=0 then(fsC v a b).map (·.1)else []:=rfl
 have hfields:(zaz v a b).fields=if tagZ (zaz v a b) 4=0 then(fsC v a b).map (·.2)else []:=rfl
 have hfn:=zra H
 rw[hE,hneeds,hnames,hfields,hfn]
 unfold zdo
 clear hE hneeds hnames hfields hfn
 have h6:6<=(zaX a.tags b.tags).length:=by omega
 have hnn:a.needs.length<=1073741824/\b.needs.length<=1073741824:=⟨by have:=sa.needs;omega,by have:=sb.needs;omega⟩
 have hfl:a.fn.length<=2/\b.fn.length<=2:=⟨by have:=Ma.fn_len;omega,by have:=Mb.fn_len;omega⟩
 generalize zaX a.tags b.tags=T at*
 have htk:(encI T).take 6=encI T:=aF (by simp[hL])
 simp
 refine fP [1] ?_
 simp[zah,h6,htk,e2,e3,e4,e5]
 refine gN (zpp a.needs hnn.1) ?_
 rw[aC q4,aC r4,aC r4]
 simp[zah,ha4,q4,e2,e3,e4,e5]
 refine gN (zvB a.needs b.needs hnn.1 hnn.2) ?_
 simp[zah,hc4,h6,htk,r4,e2,e3,e4,e5]
 have hal:a.names.length<=1073741824:=by have:=sa.fields;have:=Ma.len;omega
 have hbl:b.names.length<=1073741824:=by have:=sb.fields;have:=Mb.len;omega
 refine cmp2 hp (a:=a) (b:=b) Ma hal T (zbi a.needs b.needs) (by simp[zah,e2,e3,e4,e5,h6,htk]) fun S1 e2 e3 e4 e5 e8=>?_
 simp[e2,e3,e4,e5,e8]
 refine cmp4 hp Ma Mb hbl (fun k=>(H.hu k).2) H.H1 T (zbi a.needs b.needs) (by simp[e2,e3,e4,e5,e8];exact fun a b h=>zbp h) fun S2 l hI e2 e3 e4 e5 e8=>?_
 have hk1:=hI.1
 rw[bS]at hk1
 have hnd:(l.map (·.1)).Nodup:=by rw[hk1];exact zop (zbc Ma.names) (zbc Mb.names)
 have hlen:l.length<=1073741824:=by
  have e1:l.length=(l.map (·.1)).length:=by simp
  have e2:=bV (fun k=> !decide (k∈a.names)) b.names
  have:=sa.fields;have:=sb.fields;have:=Ma.len;have:=Mb.len
  rw[e1,hk1,aX];omega
 have hsort:zbs (l.map (·.1))=zgV a b:=by rw[hk1];try rfl
 have hout:outC l (zbs (l.map (·.1)))=fsC v a b:=by
  rw[hsort]
  unfold outC fsC busy
  congr 1
  refine bO fun k hk=>?_
  have hk':=zsD.1 hk
  have hkl:k∈l.map (·.1):=by
   rw[hk1];simp only[aQ,bC]
   by_cases q:k∈a.names
   ·exact .inl q
   ·exact .inr ⟨hk'.resolve_left q,by simp[q]⟩
  rw[hI.2 k hkl,bS]
  split
  ·rfl
  ·rename_i q
   have:zaE b k=idC:=zde q
   rw[this,(H.hu k).1]
 have hfk:=zz9 (.sl false 1 (encI T)) (.sl false 2 (encN (zbi a.needs b.needs))) (.sl true 5 []) l hnd hlen
 rw[hout]at hfk
 generalize fsC v a b=L at*
 have ht1:(encS ((L).map (·.1))).take (L).length=encS ((L).map (·.1)):=aF (by simp)
 have ht2:((L).map fun x=>x.2.enc).take (L).length=(L).map fun x=>x.2.enc:=aF (by simp)
 simp[e2,e3,e4,e5,e8]
 refine gM [2,3] hfk (by simp;exact fun a b h=>zbp h) ?_
 simp
 refine fP [4,5] ?_
 simp only[zkZ,zpP,aC,aB,reduceIte,Nat.reduceEqDiff,zhd,zdL,Blk.fz_arr,zhQ,zec]
 refine St.forget (F:=w_ Pg c _ _ _) (fun T' M=>Abs.look T' 2=.c (.d (.rp a.enc 0))/\Abs.look T' 3=.c (.d (.rp b.enc 0))/\Abs.look T' 4=.c (.ptr 0 0)/\Abs.look T' 5=.c (.ptr 2 0)/\
  M 0=box5/\M 2=.box [.d (.sl false 1 (encI T)),.d (.sl false 2 (encN (zbi a.needs b.needs))),.d (.sl false 1 (encS (L.map (·.1)))),.d (.sl false 5 (L.map fun x=>x.2.enc)),.d (.sl true 5 [])]/\∀i,6<=i->M i=.non) ?_ fun T' M ⟨e2,e3,e4,e5,m0,m2,mn⟩=>?_
 ·refine⟨?_,?_,?_,?_,?_,?_,fun i hi=>?_⟩
  ·simp only[zah,zch,aB,reduceIte,Nat.reduceEqDiff,e2,gG,AC.fz_d]
  ·simp only[zah,zch,aB,reduceIte,Nat.reduceEqDiff,e3,gG,AC.fz_d]
  ·simp only[zah,zch,aB,reduceIte,Nat.reduceEqDiff,e4,gG,AC.fz_ptr]
  ·simp only[zah,zch,aB,reduceIte,Nat.reduceEqDiff,e5,gG,AC.fz_ptr]
  ·simp[zdL]
  ·simp[zdL,ht1,ht2]
  ·have h1:i≠4:=by omega
   have h2:i≠5:=by omega
   have h3:i≠2:=by omega
   have h4:i≠3:=by omega
   have h5:hpOf [box5,Blk.dead,boxT T (zbi a.needs b.needs),Blk.map (mapC l)] i=.non:=zce (by simp;omega)
   simp[zdL,h1,h2,h3,h4,h5]
 simp[hc5,e2,e3,e4,e5,m0,m2,mn]
 refine gI (fun r5=>gI (fun q5=>?_) (fun q5=>?_)) (fun r5=>?_)
 ·simp at r5
  have hw:IntKind.i64.wrap ((a.fn.length:Int)+b.fn.length)=(a.fn.length:Int)+b.fn.length:=wI
  have q5':0<a.fn.length+b.fn.length:=by
   rw[hw]at q5;simp at q5;omega
  refine gN (zh1 a Ma.fn_len) ?_
  simp[e2,e3,e4,e5,m0,m2,mn]
  refine gN (zh1 b Mb.fn_len) ?_
  simp[m0,m2,mn,e2,e3,e4,e5]
  refine gN (H.H2 q5') ?_
  simp[m0,m2,mn,e2,e3,e4,e5]
  refine gN (H.H3 q5') ?_
  simp[m0,m2,mn,e2,e3,e4,e5]
  refine gM [2] (zvC (.sl false 1 (encI T)) (.sl false 2 (encN (zbi a.needs b.needs))) (.sl false 1 (encS ((L).map (·.1)))) (.sl false 5 ((L).map fun x=>x.2.enc)) rfl (v (zaB b).1 (zaB a).1) (v (zaB a).2 (zaB b).2)) (by simp[m2]) ?_
  simp[m0,m2,mn,e2,e3,e4,e5]
  refine⟨by decide,?_⟩
  simp[r5,q5',e2,e3,e4,e5,m0,m2,mn]
 ·simp at r5
  have hw:IntKind.i64.wrap ((a.fn.length:Int)+b.fn.length)=(a.fn.length:Int)+b.fn.length:=wI
  have q5':¬0<a.fn.length+b.fn.length:=by
   rw[hw]at q5;simp at q5;omega
  simp[r5,q5',e2,e3,e4,e5,m0,m2,mn]
 ·simp at r5
  simp[r5,e2,e3,e4,e5,m0,m2,mn]
theorem zzZ{v:Coe->Coe->Coe}{a b:Coe}(H:CmpH v a b)(q4:tagZ a 4=0)(r4:tagZ (zaz v a b) 4≠0):PCall Pg 64 [.agg a.enc,.agg b.enc] (.agg (zaz v a b).enc):=by
 have Ma:=H.Ma
 have Mb:=H.Mb
 have sa:=H.sa
 have sb:=H.sb
 refine zfs (by simp) fun o c hN hp=>?_
 have hL:(zaX a.tags b.tags).length=6:=zhf Ma.tags Mb.tags
 unfold zdD
 simp
 refine gK [] IdM ?_
 simp
 refine cmp0 hp Ma Mb (by simp) fun S0 e2 e3 e4 e5=>?_
 have ha4:a.tags[4]?=some (tagZ a 4):=zd5 Ma.tags (by omega)
 have hc4:(zaX a.tags b.tags)[4]?=some (tagZ (zaz v a b) 4):=zd5 hL (by omega)
 have hc5:(zaX a.tags b.tags)[5]?=some (tagZ (zaz v a b) 5):=zd5 hL (by omega)
 have hE:(zaz v a b).enc=[.sl false 1 (encI (zaX a.tags b.tags)),.sl false 2 (encN (zaz v a b).needs),.sl false 1 (encS (zaz v a b).names),.sl false 5 ((zaz v a b).fields.map Coe.enc),.sl false 5 ((zaz v a b).fn.map Coe.enc)]:=Coe.enc_eq _
 have hneeds:(zaz v a b).needs=zdo a b:=rfl
 have hnames:(zaz v a b).names=if tagZ (zaz v a b) 4=0 then(fsC v a b).map (·.1)else []:=rfl
 have hfields:(zaz v a b).fields=if tagZ (zaz v a b) 4=0 then(fsC v a b).map (·.2)else []:=rfl
 have hfn:=zra H
 rw[hE,hneeds,hnames,hfields,hfn]
 unfold zdo
 clear hE hneeds hnames hfields hfn
 have h6:6<=(zaX a.tags b.tags).length:=by omega
 have hnn:a.needs.length<=1073741824/\b.needs.length<=1073741824:=⟨by have:=sa.needs;omega,by have:=sb.needs;omega⟩
 have hfl:a.fn.length<=2/\b.fn.length<=2:=⟨by have:=Ma.fn_len;omega,by have:=Mb.fn_len;omega⟩
 generalize zaX a.tags b.tags=T at*
 have htk:(encI T).take 6=encI T:=aF (by simp[hL])
 simp
 refine fP [1] ?_
 simp[zah,h6,htk,e2,e3,e4,e5]
 refine gN (zpp a.needs hnn.1) ?_
 rw[aC q4,aB r4,aB r4]
 simp[zah,ha4,q4,e2,e3,e4,e5]
 refine gN (zvB a.needs b.needs hnn.1 hnn.2) ?_
 simp[zah,hc4,h6,htk,r4,e2,e3,e4,e5]
 refine fP [] ?_
 simp only[zec]
 refine St.forget (F:=w_ Pg c _ _ _) (fun T' M=>Abs.look T' 2=.c (.d (.rp a.enc 0))/\Abs.look T' 3=.c (.d (.rp b.enc 0))/\Abs.look T' 4=.c (.ptr 0 0)/\Abs.look T' 5=.c (.ptr 2 0)/\
  M 0=box5/\M 2=.box [.d (.sl false 1 (encI T)),.d (.sl false 2 (encN (zbi a.needs b.needs))),.d (.sl true 1 []),.d (.sl true 5 []),.d (.sl true 5 [])]/\∀i,3<=i->M i=.non) ?_ fun T' M ⟨e2,e3,e4,e5,m0,m2,mn⟩=>?_
 ·refine⟨?_,?_,?_,?_,?_,?_,fun i hi=>?_⟩
  ·simp only[zah,zch,aB,reduceIte,Nat.reduceEqDiff,e2,gG,AC.fz_d]
  ·simp only[zah,zch,aB,reduceIte,Nat.reduceEqDiff,e3,gG,AC.fz_d]
  ·simp only[zah,zch,aB,reduceIte,Nat.reduceEqDiff,e4,gG,AC.fz_ptr]
  ·simp only[zah,zch,aB,reduceIte,Nat.reduceEqDiff,e5,gG,AC.fz_ptr]
  ·simp[zdL]
  ·simp[zdL,h6,htk]
  ·have h1:i≠1:=by omega
   have h2:i≠2:=by omega
   have h5:hpOf [box5,Blk.arr 1 (List.map (fun x=>List.map AC.d x) (encI T)),Blk.box [AC.msl 1 1 0 6,AC.d (D.sl true 2 []),AC.d (D.sl true 1 []),AC.d (D.sl true 5 []),AC.d (D.sl true 5 [])]] i=.non:=zce (by simp;omega)
   simp[zdL,h1,h2,h5]
 simp[hc5,e2,e3,e4,e5,m0,m2,mn]
 refine gI (fun r5=>gI (fun q5=>?_) (fun q5=>?_)) (fun r5=>?_)
 ·simp at r5
  have hw:IntKind.i64.wrap ((a.fn.length:Int)+b.fn.length)=(a.fn.length:Int)+b.fn.length:=wI
  have q5':0<a.fn.length+b.fn.length:=by
   rw[hw]at q5;simp at q5;omega
  refine gN (zh1 a Ma.fn_len) ?_
  simp[e2,e3,e4,e5,m0,m2,mn]
  refine gN (zh1 b Mb.fn_len) ?_
  simp[m0,m2,mn,e2,e3,e4,e5]
  refine gN (H.H2 q5') ?_
  simp[m0,m2,mn,e2,e3,e4,e5]
  refine gN (H.H3 q5') ?_
  simp[m0,m2,mn,e2,e3,e4,e5]
  refine gM [2] (zvC (.sl false 1 (encI T)) (.sl false 2 (encN (zbi a.needs b.needs))) (.sl true 1 []) (.sl true 5 []) rfl (v (zaB b).1 (zaB a).1) (v (zaB a).2 (zaB b).2)) (by simp[m2]) ?_
  simp[m0,m2,mn,e2,e3,e4,e5]
  refine⟨by decide,?_⟩
  simp[r5,q5',e2,e3,e4,e5,m0,m2,mn]
 ·simp at r5
  have hw:IntKind.i64.wrap ((a.fn.length:Int)+b.fn.length)=(a.fn.length:Int)+b.fn.length:=wI
  have q5':¬0<a.fn.length+b.fn.length:=by
   rw[hw]at q5;simp at q5;omega
  simp[r5,q5',e2,e3,e4,e5,m0,m2,mn]
 ·simp at r5
  simp[r5,e2,e3,e4,e5,m0,m2,mn]
theorem zz0{v:Coe->Coe->Coe}{a b:Coe}(H:CmpH v a b)(q4:tagZ a 4≠0)(r4:tagZ (zaz v a b) 4≠0):PCall Pg 64 [.agg a.enc,.agg b.enc] (.agg (zaz v a b).enc):=by
 have Ma:=H.Ma
 have Mb:=H.Mb
 have sa:=H.sa
 have sb:=H.sb
 refine zfs (by simp) fun o c hN hp=>?_
 have hL:(zaX a.tags b.tags).length=6:=zhf Ma.tags Mb.tags
 unfold zdD
 simp
 refine gK [] IdM ?_
 simp
 refine cmp0 hp Ma Mb (by simp) fun S0 e2 e3 e4 e5=>?_
 have ha4:a.tags[4]?=some (tagZ a 4):=zd5 Ma.tags (by omega)
 have hc4:(zaX a.tags b.tags)[4]?=some (tagZ (zaz v a b) 4):=zd5 hL (by omega)
 have hc5:(zaX a.tags b.tags)[5]?=some (tagZ (zaz v a b) 5):=zd5 hL (by omega)
 have hE:(zaz v a b).enc=[.sl false 1 (encI (zaX a.tags b.tags)),.sl false 2 (encN (zaz v a b).needs),.sl false 1 (encS (zaz v a b).names),.sl false 5 ((zaz v a b).fields.map Coe.enc),.sl false 5 ((zaz v a b).fn.map Coe.enc)]:=Coe.enc_eq _
 have hneeds:(zaz v a b).needs=zdo a b:=rfl
 have hnames:(zaz v a b).names=if tagZ (zaz v a b) 4=0 then(fsC v a b).map (·.1)else []:=rfl
 have hfields:(zaz v a b).fields=if tagZ (zaz v a b) 4=0 then(fsC v a b).map (·.2)else []:=rfl
 have hfn:=zra H
 rw[hE,hneeds,hnames,hfields,hfn]
 unfold zdo
 clear hE hneeds hnames hfields hfn
 have h6:6<=(zaX a.tags b.tags).length:=by omega
 have hnn:a.needs.length<=1073741824/\b.needs.length<=1073741824:=⟨by have:=sa.needs;omega,by have:=sb.needs;omega⟩
 have hfl:a.fn.length<=2/\b.fn.length<=2:=⟨by have:=Ma.fn_len;omega,by have:=Mb.fn_len;omega⟩
 generalize zaX a.tags b.tags=T at*
 have htk:(encI T).take 6=encI T:=aF (by simp[hL])
 simp
 refine fP [1] ?_
 simp[zah,h6,htk,e2,e3,e4,e5]
 refine gN (zpp a.needs hnn.1) ?_
 rw[aB q4,aB r4,aB r4]
 simp[zah,ha4,hc4,h6,htk,r4,q4,e2,e3,e4,e5]
 refine fP [] ?_
 simp only[zec]
 refine St.forget (F:=w_ Pg c _ _ _) (fun T' M=>Abs.look T' 2=.c (.d (.rp a.enc 0))/\Abs.look T' 3=.c (.d (.rp b.enc 0))/\Abs.look T' 4=.c (.ptr 0 0)/\Abs.look T' 5=.c (.ptr 2 0)/\
  M 0=box5/\M 2=.box [.d (.sl false 1 (encI T)),.d (.sl false 2 (encN a.needs)),.d (.sl true 1 []),.d (.sl true 5 []),.d (.sl true 5 [])]/\∀i,3<=i->M i=.non) ?_ fun T' M ⟨e2,e3,e4,e5,m0,m2,mn⟩=>?_
 ·refine⟨?_,?_,?_,?_,?_,?_,fun i hi=>?_⟩
  ·simp only[zah,zch,aB,reduceIte,Nat.reduceEqDiff,e2,gG,AC.fz_d]
  ·simp only[zah,zch,aB,reduceIte,Nat.reduceEqDiff,e3,gG,AC.fz_d]
  ·simp only[zah,zch,aB,reduceIte,Nat.reduceEqDiff,e4,gG,AC.fz_ptr]
  ·simp only[zah,zch,aB,reduceIte,Nat.reduceEqDiff,e5,gG,AC.fz_ptr]
  ·simp[zdL]
  ·simp[zdL,h6,htk]
  ·have h1:i≠1:=by omega
   have h2:i≠2:=by omega
   have h5:hpOf [box5,Blk.arr 1 (List.map (fun x=>List.map AC.d x) (encI T)),Blk.box [AC.msl 1 1 0 6,AC.d (D.sl true 2 []),AC.d (D.sl true 1 []),AC.d (D.sl true 5 []),AC.d (D.sl true 5 [])]] i=.non:=zce (by simp;omega)
   simp[zdL,h1,h2,h5]
 simp[hc5,e2,e3,e4,e5,m0,m2,mn]
 refine gI (fun r5=>gI (fun q5=>?_) (fun q5=>?_)) (fun r5=>?_)
 ·simp at r5
  have hw:IntKind.i64.wrap ((a.fn.length:Int)+b.fn.length)=(a.fn.length:Int)+b.fn.length:=wI
  have q5':0<a.fn.length+b.fn.length:=by
   rw[hw]at q5;simp at q5;omega
  refine gN (zh1 a Ma.fn_len) ?_
  simp[e2,e3,e4,e5,m0,m2,mn]
  refine gN (zh1 b Mb.fn_len) ?_
  simp[m0,m2,mn,e2,e3,e4,e5]
  refine gN (H.H2 q5') ?_
  simp[m0,m2,mn,e2,e3,e4,e5]
  refine gN (H.H3 q5') ?_
  simp[m0,m2,mn,e2,e3,e4,e5]
  refine gM [2] (zvC (.sl false 1 (encI T)) (.sl false 2 (encN a.needs)) (.sl true 1 []) (.sl true 5 []) rfl (v (zaB b).1 (zaB a).1) (v (zaB a).2 (zaB b).2)) (by simp[m2]) ?_
  simp[m0,m2,mn,e2,e3,e4,e5]
  refine⟨by decide,?_⟩
  simp[r5,q5',e2,e3,e4,e5,m0,m2,mn]
 ·simp at r5
  have hw:IntKind.i64.wrap ((a.fn.length:Int)+b.fn.length)=(a.fn.length:Int)+b.fn.length:=wI
  have q5':¬0<a.fn.length+b.fn.length:=by
   rw[hw]at q5;simp at q5;omega
  simp[r5,q5',e2,e3,e4,e5,m0,m2,mn]
 ·simp at r5
  simp[r5,e2,e3,e4,e5,m0,m2,mn]
def znV{v:Coe->Coe->Coe}{a b:Coe}(H:CmpH v a b):PCall Pg 64 [.agg a.enc,.agg b.enc] (.agg (zaz v a b).enc):=by
 by_cases q4:tagZ a 4=0
 ·by_cases r4:tagZ (zaz v a b) 4=0
  ·exact zzY H q4 r4
  ·exact zzZ H q4 r4
 ·exact zz0 H q4 (by rw[zfy H.Ma H.Mb,aB q4];exact q4)
end Go.Gr.P
namespace Go.Gr.P
open Go.Abs Go.Proofs
def zhF:∀(n:Nat) {a b:Coe},inN n a->inN n b->mayC a=true->mayC b=true->smC 536870912 a->smC 536870912 b->PCall Pg 64 [.agg a.enc,.agg b.enc] (.agg (zbx n a b).enc)
 |0,a,b,ia,ib,ma,mb,sa,sb=>by
  have ea:a=idC:=ia
  have eb:b=idC:=ib
  have e:zbx 0 a b=zaz (zbx 0) a b:=by rw[ea,eb];exact(znB 1).symm
  rw[e]
  refine znV ⟨(zbR _).1 ma,(zbR _).1 mb,rfl,fun k=>?_,zjb sa,zjb sb,fun k hk=>?_,fun h=>?_,fun h=>?_⟩
  ·rw[ea,eb];exact⟨rfl,rfl⟩
  ·rw[ea]at hk;cases hk
  ·rw[ea,eb]at h;simp[idC,Coe.fn]at h
  ·rw[ea,eb]at h;simp[idC,Coe.fn]at h
 |n+1,a,b,ia,ib,ma,mb,sa,sb=>by
  have Ma:=(zbR _).1 ma
  have Mb:=(zbR _).1 mb
  refine znV ⟨Ma,Mb,znB n,fun k=>⟨(zdQ n _ (zcY ia Ma.len k) (Ma.field k)).1,(zdQ n _ (zcY ib Mb.len k) (Mb.field k)).2⟩,zjb sa,zjb sb,fun k _ _=>?_,fun _=>?_,fun _=>?_⟩
  ·exact zhF n (zcY ia Ma.len k) (zcY ib Mb.len k) (Ma.field k) (Mb.field k) (zja sa Ma.len k) (zja sb Mb.len k)
  ·exact zhF n (zbS ib).1 (zbS ia).1 Mb.pair.1 Ma.pair.1 (zeq sb).1 (zeq sa).1
  ·exact zhF n (zbS ia).2 (zbS ib).2 Ma.pair.2 Mb.pair.2 (zeq sa).2 (zeq sb).2
def zGn(n:Nat){a b:Coe}(ia:inN n a)(ib:inN n b)(sa:smC 536870912 a)(sb:smC 536870912 b):PCall Pg 37 [.agg a.enc,.agg b.enc] (.agg (ztp n a b).enc):=by
 refine zo3 (by simp) fun o c hN hp=>?_
 unfold zhA ztp
 simp
 refine gN (zrz a) ?_
 simp
 apply gI<;>intro h1
 ·simp at h1
  refine gN (zrz b) ?_
  simp
  apply gI<;>intro h2
  ·simp at h2
   simp[h2,noCZ,Coe.enc,Coe.encs]
  ·simp at h2
   refine gN (zhF n ia ib h1 h2 sa sb) ?_
   simp[h1,h2]
 ·simp at h1
  simp[h1,noCZ,Coe.enc,Coe.encs]
def zdT(t:Typ):PCall Pg 97 [.agg t.enc] (.one (.bool (decide (t.kind=0)))):=by
 refine zo1 (by simp) fun o c hN hp=>?_
 unfold zhz
 simp
def zaj(t:Typ):Int:=if t.kind<1\/6<t.kind then -1 else t.kind-1
def zij(t:Typ):PCall Pg 170 [.agg t.enc] (.one (.int .i64 (zaj t))):=by
 refine zwE (by simp) fun o c hN hp=>?_
 unfold zmK
 simp
 refine gI (fun h=>gI (fun h2=>?_) (fun h2=>?_)) (fun h=>?_)
 ·simp at h h2
  unfold zaj;rw[aC (by omega)]
 ·simp at h h2
  unfold zaj;rw[aB (by omega)]
  exact wI
 ·simp at h
  unfold zaj;rw[aC (by omega)]
end Go.Gr.P
namespace Go.Gr.P
open Go.Abs Go.Proofs List
mutual
def zaV:Typ->Typ->Bool
 |.mk k n s l,.mk k' n' s' l'=>decide (k=k')&&(decide (n=n')&&(decide (s=s')&&zbF l l'))
def zbF:List Typ->List Typ->Bool
 |[],[]=>true
 |a::l,b::k=>zaV a b&&zbF l k
 |_,_=>false
end
def zhc:∀(a b:List Typ),zbF a b=eqF zaV a b
 |[],[]=>by simp[zbF,eqF]
 |[],_::_=>by simp[zbF,eqF]
 |_::_,[]=>by simp[zbF,eqF]
 |a::l,b::k=>by simp[zbF,eqF,zhc l k]
def zpc(a b:Typ):zaV a b=(decide (a.kind=b.kind)&&(decide (a.name=b.name)&&(decide (a.names=b.names)&&eqF zaV a.kids b.kids))):=by
 cases a;cases b
 simp only[zaV,zhc]
 rfl
def ztk(a b:List Typ)(g:FuncId)(caps:List D)(q:Typ->Typ->Bool)(H:∀x,x∈a->∀y,PCall Pg g (.agg x.enc::.agg y.enc::caps.map .one) (.one (.bool (q x y)))):
  PCall Pg 144 [.one (.sl false 4 (a.map Typ.enc)),.one (.sl false 4 (b.map Typ.enc)),.one (.fn (.func g) caps)] (.one (.bool (eqF q a b))):=by
 refine zcD (by simp) fun o c hN hp=>?_
 have hl:a.length<=zaf:=by have:=o.1;simp only[DV.ok,D.ok]at this;simpa using this.1
 unfold zaf at hl
 unfold zbv
 simp
 apply gI<;>intro h
 ·simp at h
  exact zgw q (by omega)
 ·simp at h
  refine fM zaa hp zaZ [17] (fun j:Nat=>j<=a.length/\eqF q (a.drop j) (b.drop j)=eqF q a b) (fun j=>[.c (.d (.int .i64 j))]) (fun _=>[]) (fun j=>a.length-j) 0 [] (by simp) (by simp[zaZ]) fun j ⟨h1,h2⟩=>?_
  unfold zbn zaZ
  simp
  apply gI<;>intro h
  ·have hj:j<a.length:=by simpa using h
   have hj':j<b.length:=by omega
   rw[aG hj,aG hj',eqF]at h2
   simp[aA hj,aA hj']
   refine gN (H _ (aS hj) _) ?_
   simp
   apply gI<;>intro h
   ·simp at h
    rw[h,Bool.false_and]at h2
    exact h2.symm
   ·simp at h
    rw[h,Bool.true_and]at h2
    exact fD (j+1) [] ⟨by omega,h2⟩ (by omega) (by simp;exact wI)
  ·have hj:j=a.length:=by simp at h;omega
   subst hj
   rw[aO,bG (by omega)]at h2
   rw[<-h2];try rfl
@[simp] theorem Typ.enc_g1(t:Typ)(h:1<t.enc.length):t.enc[1]=.str t.name:=by have:=t.enc_1;rw[aA h]at this;exact bK this
def zBl(a b:Typ)(ih:∀x,x∈a.kids->∀y,PCall Pg 96 [.agg x.enc,.agg y.enc] (.one (.bool (zaV x y)))):PCall Pg 96 [.agg a.enc,.agg b.enc] (.one (.bool (zaV a b))):=by
 have e:=zpc a b
 refine zuG (by simp) fun o c hN hp=>?_
 unfold zlM
 simp
 refine gI (fun h1=>gI (fun h2=>?_) (fun h2=>?_)) (fun h1=>?_)
 ·refine gN (zsx _ _) ?_
  generalize decide (a.names=b.names)=p3 at e⊢
  simp
  apply gI<;>intro h3
  ·refine gN (ztk _ _ 96 [] zaV fun x hx y=>ih x hx y) ?_
   simp at h1 h2
   simp[e,h1,h2,h3]
  ·simp at h3
   simp[e,h3]
 ·simp at h2
  simp[e,h2]
 ·simp at h1
  simp[e,h1]
mutual
def zk2:∀(a b:Typ),PCall Pg 96 [.agg a.enc,.agg b.enc] (.one (.bool (zaV a b)))
 |.mk k n s l,b=>zBl _ b fun x hx y=>zsM l x hx y
def zsM:∀(l:List Typ) (x:Typ),x∈l->∀y,PCall Pg 96 [.agg x.enc,.agg y.enc] (.one (.bool (zaV x y)))
 |c::l,x,h,y=>by
  cases aM.1 h with
  |inl e=>rw[e];exact zk2 c y
  |inr e=>exact zsM l x e y
end
def fi{α:Type}(q:α->Bool):Nat->List α->Int
 |_,[]=> -1
 |j,x::l=>if q x=true then(j:Int)else fi q (j+1) l
def zvz{α:Type}(q:α->Bool):∀(j:Nat) (l:List α),decide (0<=fi q j l)=l.any q
 |_,[]=>by simp[fi]
 | j,x::l=>by
  have ih:=zvz q (j+1) l
  simp only[fi,any_cons]
  split
  ·rename_i h;rw[h,eZ];simp
  ·rename_i h
   rw[aK]at h
   rw[h,eP];exact ih
def zBm(l:List Typ)(g:FuncId)(caps:List D)(q:Typ->Bool)(H:∀x,x∈l->PCall Pg g (.agg x.enc::caps.map .one) (.one (.bool (q x)))):
  PCall Pg 168 [.one (.sl false 4 (l.map Typ.enc)),.one (.fn (.func g) caps)] (.one (.int .i64 (fi q 0 l))):=by
 refine zez (by simp) fun o c' hN hp=>?_
 have hl:l.length<=zaf:=by
  have:=o.1;simp only[DV.ok,D.ok]at this;simpa using this.1
 unfold zaf at hl
 unfold zcv
 simp
 refine fK zaa hp (fun j:Nat=>j<=l.length/\fi q j (l.drop j)=fi q 0 l) (fun j=>[(8,.c (.d (.int .i64 j))),(7,.c (.d (.int .i64 l.length))),(0,.c (.d (.sl false 4 (l.map Typ.enc)))),(1,.c (.d (.fn (.func g) caps)))]) (fun _=>[]) (fun j=>l.length-j) 0 [] ⟨by simp,by simp⟩ (by simp) fun j hj=>?_
 unfold zci
 obtain⟨h1,h2⟩:=hj
 simp
 apply gI<;>intro h
 ·simp at h
  have hj:j<l.length:=by omega
  simp[aA hj]
  rw[aG hj,fi]at h2
  refine gN (H _ (aS hj)) ?_
  simp
  refine gI (fun h'=>?_) (fun h'=>?_)
  ·rw[aC h']at h2
   exact h2
  ·rw[Bool.not_true]at h'
   rw[aB (by rw[h'];simp)]at h2
   refine fD (j+1) [] ⟨by omega,h2⟩ (by omega) ?_
   simp
   exact wI
 ·have hj:j=l.length:=by simp at h;omega
  rw[<-h2,hj]
  simp[fi]
def zza(t:Typ)(n:Int):PCall Pg 169 [.agg t.enc,.one (.rp [.int .i64 n] 0)] (.one (.bool (decide (zaj t=n)))):=by
 refine zo5 (by simp) fun o c hN hp=>?_
 unfold zhE
 simp
 refine gN (zij t) ?_
 simp
 decide
def zfE{t:Typ}(o:DV.ok (.agg t.enc)):t.names.length<=zaf/\t.kids.length<=zaf:=by
 rw[Typ.enc_eq]at o
 simp only[DV.ok,D.okL,D.ok,ze9,aU]at o
 exact⟨o.2.2.1.1,o.2.2.2.1.1⟩
mutual
def tsz:Typ->Nat
 |.mk _ _ _ l=>min (tszs l 1) 201
def tszs:List Typ->Nat->Nat
 |[],n=>n
 |t::ts,n=>if 200<n then n else tszs ts (n+tsz t)
end
def zmj(t:Typ):tsz t=min (tszs t.kids 1) 201:=by cases t;rw[tsz];try rfl
def zFD(t:Typ):tsz t<=201:=by rw[zmj];omega
def zAl{l:List Typ}{n:Nat}(h:200<n):tszs l n=n:=by
 cases l with
 |nil=>rw[tszs]
 |cons d l=>rw[tszs,aC h]
def zAm(t:Typ)(ih:∀e,e∈t.kids->PCall Pg 142 [.agg e.enc] (.one (.int .i64 (tsz e)))):PCall Pg 142 [.agg t.enc] (.one (.int .i64 (tsz t))):=by
 refine zuF (by simp) fun o c hN hp=>?_
 have hf:=zfE o.1
 unfold zaf at hf
 unfold zlL
 simp
 have hmm:∀n:Nat,mmI false (n:Int) 201=((min n 201:Nat):Int):=fun n=>by unfold mmI;simp;split<;>omega
 refine fK zaa hp (fun x:Nat × Nat=>x.1<=t.kids.length/\x.2<=401/\tszs (t.kids.drop x.1) x.2=tszs t.kids 1) (fun x=>[(9,.c (.d (.int .i64 x.1))),(3,.c (.d (.int .i64 x.2))),(7,.c (.d (.sl false 4 (t.kids.map Typ.enc)))),(8,.c (.d (.int .i64 t.kids.length)))]) (fun _=>[]) (fun x=>t.kids.length-x.1) (0,1) [] ⟨by simp,by simp,by simp⟩ (by simp) fun⟨j,n⟩ ⟨hx1,hx3,hx2⟩=>?_
 unfold zjh
 simp only at hx1 hx2 hx3
 simp
 apply gI<;>intro h
 ·have hj:j<t.kids.length:=by simpa using h
  rw[aG hj,tszs]at hx2
  simp[aA hj]
  apply gI<;>intro h
  ·simp at h
   rw[aC (by omega)]at hx2
   rw[zmj,<-hx2,hmm]
  ·simp at h
   rw[aB (by omega)]at hx2
   refine gN (ih _ (aS hj)) ?_
   have hle:=zFD t.kids[j]
   simp
   refine fD (j+1,n+tsz t.kids[j]) [] ⟨by simp;omega,by simp only;omega,hx2⟩ (by simp;omega) ?_
   simp
   exact⟨wI,wI⟩
 ·have hj:j=t.kids.length:=by simp at h;omega
  subst hj
  rw[aO,tszs]at hx2
  rw[zmj,<-hx2,hmm]
mutual
def zt6:∀t:Typ,PCall Pg 142 [.agg t.enc] (.one (.int .i64 (tsz t)))
 |.mk k n s l=>zAm (.mk k n s l) (fun e h=>zr0 l e h)
def zr0:∀(l:List Typ) (e:Typ),e∈l->PCall Pg 142 [.agg e.enc] (.one (.int .i64 (tsz e)))
 |[],e,h=>by cases h
 |d::l,e,h=>by
  cases h with
  |head=>exact zt6 d
  |tail _ h=>exact zr0 l e h
end
def hgt:Nat->Typ->Nat
 |0,_=>1
 |n+1,t=>t.kids.foldl (fun h k=>max h (hgt n k)) 0+1
def zt7{α:Type}(f:α->Nat):∀(l:List α) (a B:Nat),a<=B->(∀x,x∈l->f x<=B)->l.foldl (fun h k=>max h (f k)) a<=B
 |[],a,B,h,_=>h
 |x::l,a,B,h,hl=>zt7 f l (max a (f x)) B (by have:=hl x (by simp);omega) fun y hy=>hl y (by simp[hy])
def zAn:∀(n:Nat) (t:Typ),hgt n t<=n+1
 |0,t=>aN _
 |n+1,t=>by
  unfold hgt
  have:=zt7 (hgt n) t.kids 0 (n+1) (by omega) fun x _=>zAn n x
  omega
def zr1:∀(n:Nat) (t:Typ),n<=100->PCall Pg 165 [.agg t.enc,.one (.int .i64 (n+1:Nat))] (.one (.int .i64 (hgt n t)))
 |0,t,hn=>by
  refine zj4 (by simp) fun o c hN hp=>?_
  unfold zf8
  simp[hgt]
 | n+1,t,hn=>by
  refine zj4 (by simp) fun o c hN hp=>?_
  have hf:=zfE o.1
  unfold zaf at hf
  unfold zf8
  have hne:¬((n:Int)+1+1=1):=by omega
  simp[hne]
  refine fK zaa hp (fun x:Nat × Nat=>x.1<=t.kids.length/\x.2<=n+1/\(t.kids.drop x.1).foldl (fun h k=>max h (hgt n k)) x.2=t.kids.foldl (fun h k=>max h (hgt n k)) 0) (fun x=>[(13,.c (.d (.int .i64 x.1))),(5,.c (.d (.int .i64 x.2))),(1,.c (.d (.int .i64 (n+1+1:Nat)))),(11,.c (.d (.sl false 4 (t.kids.map Typ.enc)))),(12,.c (.d (.int .i64 t.kids.length)))]) (fun _=>[]) (fun x=>t.kids.length-x.1) (0,0) [] ⟨by simp,by simp,by simp⟩ (by simp) fun⟨j,r⟩ ⟨hx1,hx3,hx2⟩=>?_
  unfold zhD
  simp only at hx1 hx2 hx3
  simp
  apply gI<;>intro h
  ·have hj:j<t.kids.length:=by simpa using h
   rw[aG hj,foldl_cons]at hx2
   simp[aA hj]
   have hw:IntKind.i64.wrap ((n:Int)+1)=((n+1:Nat):Int):=by rw[wI];omega
   rw[hw]
   refine gN (zr1 n t.kids[j] (by omega)) ?_
   have hle:=zAn n t.kids[j]
   have hmm:mmI true (r:Int) (hgt n t.kids[j])=((max r (hgt n t.kids[j]):Nat):Int):=by unfold mmI;simp;split<;>omega
   simp
   refine fD (j+1,max r (hgt n t.kids[j])) [] ⟨by simp;omega,by simp only;omega,hx2⟩ (by simp;omega) ?_
   simp[hmm]
   exact wI
  ·have hj:j=t.kids.length:=by simp at h;omega
   subst hj
   rw[aO,foldl_nil]at hx2
   simp only[hgt,<-hx2]
   simp
   rw[wI]
def zg5(t:Typ):PCall Pg 141 [.agg t.enc] (.one (.int .i64 (hgt 16 t))):=by
 refine zrl (by simp) fun o c hN hp=>?_
 unfold zjg
 simp
 refine gN (zr1 16 t (by omega)) ?_
 simp
end Go.Gr.P
