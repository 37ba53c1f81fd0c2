/- Texts of ours, joined and written short by a program of ours. -/
import Derived.Test.YtnefbdgcccgodaaGreatJ15
import Derived.Test.YtnefbdgcccgodaaGreatSrt
import Derived.Test.YtnefbdgcccgodaaGreatLayI
import Derived.Test.YtnefbdgcccgodaaGreatJ14
set_option linter.unusedVariables false
set_option linter.unusedSimpArgs false
namespace Go.Gr
open Go.Abs Go.Proofs Go.RowKit Go.Maps Go.Sort Go.Shelf
theorem noTs{ts:List (Nat × Nat)}(h:ts.length=([]:List Blk).length):ts=[]:=by simpa using h
theorem zzH(m:Nat):AnyZI.SortsIn Tryz.prog Tryz.sorted40_ren Fence.wide m:=
 ⟨fun blk off cap ss W hH hblk hsz=>callsIn_wide.2 (AnyM.slices_Sort_int Tryz.sort65 blk off cap ss W hH hblk hsz),
  fun p cap W=>callsIn_wide.2 (AnyM.slices_Sort_int_none Tryz.sort65 p cap W)⟩
set_option maxHeartbeats 1000000 in
theorem zpa{H:Type}(Bm b nn:Nat)(D0:DataW H)(R:Value->Option (DataW H × List MemPlace))(w:World)(hB:Bm<w.heap.size)(hm:w.cell? ⟨Bm,0,none⟩=some (.map (some b)))(hown:w.ownsMap Tryz.prog 3 R b nn D0)(hmax:Maps.size D0<=maxLen)(hbytes:Maps.size D0*8<=140737488355328):
  Calls Tryz.prog 40 #[.func (.func 66) #[] #[.pointer (some ⟨Bm,0,none⟩)]] w fun e w'=>∃(v:Value) (ss:List Int),e=.returned v/\ss.Perm (intKeys D0)/\
   w'.ownsRow w.heap.size 3 1 v ss.length ((ss.mergeSort (fun x y=>decide (x<=y))).map encZ)/\(v=.slice none 0 0↔ss=[])/\Below w.heap.size w w':=by
 refine(callsIn_wide (n:=5)).1 ?_
 have hseq:SeqGives Fence.wide 2 Tryz.prog 66 #[.pointer (some ⟨Bm,0,none⟩)] encZ (fun ss=>ss.Perm (intKeys D0)) (Maps.size D0) w:=
  AnyZI.keys_gives (ρ:=Tryz.keys41_ren) {Tryz.keys41 with} Fence.wide _ trivial rfl (by omega) Bm b nn D0 _ hB hm hown
 exact AnyZI.sorted_in Tryz.sorted40 Fence.wide 5 trivial trivial trivial trivial rfl (by omega) (zzH _) (enters_of Tryz.func65 (by kernel_rfl) rfl) 66 #[.pointer (some ⟨Bm,0,none⟩)] trivial (enters_of Tryz.func66 (by kernel_rfl) rfl) _ _ hmax hbytes _ hseq
def mapL(l:List Int):List (D × AV):=l.map fun x=>(.int .i64 x,.c (.d (.bool true)))
@[simp] theorem zBo(f:Nat->Nat)(l:List Int):(mapL l).map (fun e=>(e.1,AV.ren f e.2))=mapL l:=by simp[mapL]
theorem zef{n:Nat}{l:List Int}{a:D}{b:AV}(h:(a,b)∈mapL l):AV.lt n b=true:=by
 simp only[mapL,List.mem_map]at h
 obtain⟨x,_,e⟩:=h
 cases e
 simp
theorem zlx{f:Nat->Bool}{l:List Int}(a:D)(b:AV)(h:(a,b)∈mapL l):AV.lv f b=true:=by
 simp only[mapL,List.mem_map]at h
 obtain⟨x,_,e⟩:=h
 cases e
 simp
@[simp] theorem zp5(l:List Int):(mapL l).map (·.1)=l.map (.int .i64):=by simp[mapL]
theorem zw1(l:List Int):MCall Pg 41 [.c (.map 0)] [.map (mapL l)] (.c (.fn (.func 66) [.ptr 1 0])) [.map (mapL l),.box [.map 0]]:=by
 refine zdJ ⟨by simp,by simp,by simp,by simp,by simp,by simp[live],by simp[live];exact zlx⟩ fun ts hts ok hb c hN hp=>?_
 obtain⟨t,rfl⟩:=zaR hts
 unfold mc_maps_Keys_map_int_bool_int_bool
 simp
 exact EndM.mk [0,2] [1] (by simp)
theorem zw2{h:PH}{ρ:RM}{es:List (D × AV)}{w:World}{g:FuncId}{argsC:List Value}(K:HRel h ρ (hpOf [.map es,.box [.map 0]]) w.heap)(r:zat h ρ [.c (.fn (.func g) [.ptr 1 0])] argsC):
  ∃(p0:Nat × Nat) (B:Nat),argsC=[.func (.func g) #[] #[.pointer (some ⟨B,0,none⟩)]]/\B<w.heap.size/\w.cell? ⟨B,0,none⟩=some (.map (some p0.1))/\zaC h ρ p0 (.map es) w.heap:=by
 match argsC,r with
 | [v],r=>
  simp only[zat,RepV,RepC,and_true]at r
  obtain⟨vs,e1,e2,e3⟩:=r
  match vs,e2,e3 with
  | [u],_,e3=>
   simp only[zae,RepC,and_true]at e3
   obtain⟨_,p1,q1,q2⟩:=e3
   have hb:=K.own 1 p1 q1
   simp[hpOf,zaC]at hb
   obtain⟨us,⟨T,b1⟩,b2,b3⟩:=hb
   match us,b2,b3 with
   | [x],_,b3=>
    simp only[zae,RepC,and_true]at b3
    obtain⟨_,p0,c1,c2⟩:=b3
    have h0:=K.own 0 p0 c1
    refine⟨p0,p1.1,by rw[e1,q2],?_,?_,by simpa[hpOf]using h0⟩
    ·rcases Nat.lt_or_ge p1.1 w.heap.size with g|g
     ·exact g
     ·rw[Array.getElem?_eq_none g]at b1;cases b1
    ·simp[World.cell?,b1,c2]
theorem zts(l:List Int)(hn:l.Nodup)(hl:l.length<=1073741824):
  MCall Pg 40 [.c (.fn (.func 66) [.ptr 1 0])] [.map (mapL l),.box [.map 0]] (.c (.d (.sl false 1 (encI (zfF l))))) [.map (mapL l),.box [.map 0]]:=by
 have hlen:(zfF l).length=l.length:=by simp[zfF]
 have hm:(140737488355328:Nat)<=maxLen:=by decide
 have e:encI (zfF l)=((zfF l).map (D.int .i64)).map fun d=>[d]:=by simp[encI]
 rw[e]
 refine MCall.row (by decide+kernel) (zhd (by simp)) (by simp[live];exact zlx) (by simp[hlen,zah];omega) fun h ρ w argsC K r=>?_
 obtain⟨p0,B,rfl,hB,hc,hmap⟩:=zw2 K r
 obtain⟨D0,o1,o2,o3⟩:=zAg (P:=Tryz.prog) (k:=3) Tryz.underlying3 (zp5 l) hn hl hmap
 refine(zpa B p0.1 _ D0 zd9 w hB hc o1 (by omega) (by omega)).mono fun e w' q=>?_
 obtain⟨v,ss,q1,q2,q3,_,q5⟩:=q
 have q6:ss.Perm l:=q2.trans o3
 have q7:ss.mergeSort (fun x y=>decide (x<=y))=l.mergeSort fun x y=>decide (x<=y):=mergeSort_of_perm_i q6
 obtain⟨ms,ck,_,g2,_⟩:=hmap
 obtain⟨_,hsz⟩:=zh1 (zp5 l) g2
 have hss:ss.length=l.length:=q6.length_eq
 refine⟨v,_,3,q1,fun h=>zpp fun x hx=>?_,by simpa[hss,hlen,q7,zfF]using q3,q5⟩
 exact hsz x ((List.mergeSort_perm _ _).mem_iff.1 hx)
theorem zmm{k:Int}:∀{l:List Int} (i:Nat),k∉l->mfind 0 (.int .i64 k) (mapL l) i=some none
 |[],i,_=>rfl
 |x::l,i,h=>by
  simp only[List.mem_cons,not_or]at h
  have ih:=zmm (l:=l) (i+1) h.2
  simp only[mapL]at ih
  simp[mapL,h.1,ih]
theorem zoj{k:Int}:∀{l:List Int} (i:Nat),k∈l->∃j,j<l.length/\l[j]?=some k/\mfind 0 (.int .i64 k) (mapL l) i=some (some (i+j,.c (.d (.bool true))))
 |[],i,h=>by simp at h
 | x::l,i,h=>by
  by_cases e:k=x
  ·exact⟨0,by simp,by simp[e],by simp[mapL,e]⟩
  ·have h':k∈l:=(List.mem_cons.1 h).resolve_left e
   obtain⟨j,h1,h2,h3⟩:=zoj (l:=l) (i+1) h'
   simp only[mapL]at h3
   refine⟨j+1,by simp;omega,by simpa using h2,?_⟩
   simp[mapL,e,h3];omega
theorem zw3{l:List Int}{j:Nat}{k:Int}(h:l[j]?=some k):(mapL l).set j (.int .i64 k,.c (.d (.bool true)))=mapL l:=by
 unfold mapL
 have:(l.map fun x=>((D.int .i64 x,AV.c (AC.d (D.bool true))):D × AV)).set j (.int .i64 k,.c (.d (.bool true)))=(l.set j k).map fun x=>(D.int .i64 x,AV.c (AC.d (D.bool true))):=by rw[List.map_set]
 rw[this]
 congr 1
 refine List.ext_getElem? fun i=>?_
 rw[List.getElem?_set]
 split
 ·rename_i e
  subst e
  split
  ·rw[h]
  ·rename_i q
   rw[List.getElem?_eq_none (by omega)]
 ·rfl
theorem zw4{l:List Int}{k:Int}:(∃j w,mfind 0 (.int .i64 k) (mapL l) 0=some (some (j,w))/\(mapL l).set j (.int .i64 k,.c (.d (.bool true)))=mapL (insL l k))\/(mfind 0 (.int .i64 k) (mapL l) 0=some none/\mapL l++[(.int .i64 k,.c (.d (.bool true)))]=mapL (insL l k)):=by
 by_cases h:k∈l
 ·obtain⟨j,h1,h2,h3⟩:=zoj 0 h
  refine .inl ⟨j,_,by simpa using h3,?_⟩
  rw[zw3 h2];unfold insL;rw[if_pos h]
 ·exact .inr ⟨zmm 0 h,by unfold insL;rw[if_neg h];simp[mapL]⟩
theorem zu4{l:List Int}(h:l.Nodup):zfF l=srtI l:=by
 have h1:=List.pairwise_mergeSort (le:=fun x y:Int=>decide (x<=y)) (fun a b c h1 h2=>by simp only[decide_eq_true_eq]at*;omega) (fun a b=>by simp only[Bool.or_eq_true,decide_eq_true_eq];omega) l
 have hp:(zfF l).Perm l:=List.mergeSort_perm _ _
 have h2:(zfF l).Pairwise (· < ·):=by
  refine(h1.and (hp.nodup_iff.2 h)).imp fun {a b} ⟨p,q⟩=>?_
  simp only[decide_eq_true_eq]at p
  omega
 exact List.Perm.eq_of_pairwise (le:=(· < ·)) (fun a b _ _ p q=>by omega) h2 (ziy l h) (hp.trans (zfg l).symm)
end Go.Gr
namespace Go.Gr
open Go.Abs Go.Proofs
@[simp] theorem Cor.get3(c:Cor)(h:3<c.enc.length):c.enc[3]=.sl false 1 (encI c.ints):=by simp only[c.enc_eq];rfl
@[simp] theorem Cor.get7(c:Cor)(h:7<c.enc.length):c.enc[7]=.sl false 8 (c.kids.map Cor.enc):=by simp only[c.enc_eq];rfl
theorem zsM:∀{l:List Cor} {c:Cor},c∈l->csz c<=cszs l
 |d::l,c,h=>by
  rw[cszs]
  rcases List.mem_cons.1 h with e|h
  ·rw[e];omega
  ·have:=zsM h;omega
theorem zbZ(c:Cor):csz c=1+cszs c.kids:=by cases c;rw[csz];try rfl
theorem zdi:∀l:List Cor,l.length<=cszs l
 |[]=>by simp
 |c::l=>by
  have:=zdi l
  have:=zbZ c
  rw[cszs,List.length_cons];omega
def zbr(c:Cor)(b:Int):List Int:=if c.kind=4/\c.n<b then [c.n]else []
theorem zhI(c:Cor)(b:Int):rawV c b=zbr c b++za3 c.kids b:=by cases c;rw[rawV];try rfl
theorem zfO{l:List Cor}{j:Nat}(h:j<l.length)(b:Int):za3 (l.drop j) b=rawV l[j] b++za3 (l.drop (j+1)) b:=by
 rw[List.drop_eq_getElem_cons h,za3]
def zmO(c:Cor):Prop:=∀(b:Int) (l:List Int),MCall Pg 39 [.ag (c.enc.map .d),.c (.d (.int .i64 b)),.c (.map 0)] [.map (mapL l)] (.tup []) [.map (mapL (addL l (rawV c b)))]
set_option maxRecDepth 20000 in
theorem ztW(c:Cor)(hc:csz c<=1000000000)(ih:∀x,x∈c.kids->zmO x):zmO c:=fun b l=>by
 refine znv ⟨by simp,by simp,by simp,by simp,by simp,by simp[live],by simp[live];exact zlx⟩ fun ts hts ok hb cx hN hp=>?_
 obtain⟨t0,rfl⟩:=zaR hts
 have hk:=zdi c.kids
 have hs:=zbZ c
 rw[zhI,zqR]
 obtain⟨R,hR⟩:∃R,addL (addL l (zbr c b)) (za3 c.kids b)=R:=⟨_,rfl⟩
 rw[hR]
 have key:∀(K:List Int),addL K (za3 c.kids b)=R->∀(S:St) (l0:List Nat),Match l0 S [(23,.c (.d (.int .i64 (0:Nat)))),(22,.c (.d (.int .i64 c.kids.length))),(21,.c (.d (.sl false 8 (c.kids.map Cor.enc)))),(1,.c (.d (.int .i64 b))),(2,.c (.map 0))] [.map (mapL K),.pin t0 0]->lw_ Pg cx lp_clos_gather_0 (zdR 0 (endM [] (.tup []) [.map (mapL R)] [t0])) ⟨⟩ S:=fun K hK S l0 h0=>by
  refine W.loop zab hp (fun Y:Nat × List Int=>Y.1<=c.kids.length/\addL Y.2 (za3 (c.kids.drop Y.1) b)=R) (fun Y=>[(23,.c (.d (.int .i64 Y.1))),(22,.c (.d (.int .i64 c.kids.length))),(21,.c (.d (.sl false 8 (c.kids.map Cor.enc)))),(1,.c (.d (.int .i64 b))),(2,.c (.map 0))]) (fun Y=>[.map (mapL Y.2),.pin t0 0]) (fun Y=>c.kids.length-Y.1) (0,K) l0 ⟨by simp,by simpa using hK⟩ h0 fun⟨j,M⟩ ⟨i1,i2⟩=>?_
  unfold lp_clos_gather_0
  simp only at i1 i2
  simp
  refine gd.mk (fun h=>?_) (fun h=>?_)
  ·have hj:j<c.kids.length:=by simpa using h
   rw[zfO hj,zqR]at i2
   have hc:=ih _ (List.getElem_mem hj) b M
   have hw:=wrap_i64 (n:=(j:Int)+1) (by omega) (by omega)
   obtain⟨d,hd⟩:∃d,c.kids[j]=d:=⟨_,rfl⟩
   rw[hd]at i2 hc
   simp[hj,hd]
   refine zaa.mk [0] hc (by simp;exact fun a b h=>zef h) ?_
   simp
   refine Abs.Next.mk (j+1,addL M (rawV d b)) [0,1] ⟨by simp only;omega,i2⟩ (by simp only;omega) ?_
   simp[hw]
   exact fun a b h=>zef h
  ·have hj:j=c.kids.length:=by simp at h;omega
   subst hj
   rw[List.drop_length,za3,zxJ]at i2
   subst i2
   simp
   exact EndM.mk [0] [1] (by simp)
 unfold zhz
 simp
 by_cases c4:c.kind=4
 ·by_cases cb:c.n<b
  ·have e:zbr c b=[c.n]:=by unfold zbr;rw[if_pos ⟨c4,cb⟩]
   rw[e]at hR
   have ei:addL l [c.n]=insL l c.n:=rfl
   rw[ei]at hR
   simp[c4,cb]
   rcases zw4 (l:=l) (k:=c.n)with⟨i,w,m1,m2⟩|⟨m1,m2⟩<;>simp[m1,m2]
   ·exact key _ hR _ [0,1] (by simp;exact fun a b h=>zef h)
   ·exact key _ hR _ [0,1] (by simp;exact fun a b h=>zef h)
  ·have e:zbr c b=[]:=by unfold zbr;rw[if_neg (fun z=>cb z.2)]
   rw[e]at hR
   simp[c4,cb]
   exact key _ hR _ [0,1] (by simp;exact fun a b h=>zef h)
 ·have e:zbr c b=[]:=by unfold zbr;rw[if_neg (fun z=>c4 z.1)]
  rw[e]at hR
  simp[c4]
  exact key _ hR _ [0,1] (by simp;exact fun a b h=>zef h)
mutual
theorem zoK:∀c:Cor,csz c<=1000000000->zmO c
 |.mk k n t is ns ts cs ks,h=>ztW _ h fun x hx=>zmP ks x hx (by have:=zbZ (.mk k n t is ns ts cs ks);have:=zsM hx;simp only[Cor.kids]at*;omega)
theorem zmP:∀(l:List Cor) (x:Cor),x∈l->csz x<=1000000000->zmO x
 |[],x,hx,h=>by cases hx
 |c::l,x,hx,h=>by
  rcases List.mem_cons.1 hx with e|hx
  ·rw[e]at h⊢;exact zoK c h
  ·exact zmP l x hx h
end
theorem zvC{x:Int}{l:List Int}{i:Nat}(h:i<l.length):idxI x (l.drop i) i=if x=l[i]then(i:Int)else idxI x (l.drop (i+1)) (i+1):=by
 rw[List.drop_eq_getElem_cons h,idxI]
theorem zxA(l:List Int)(x:Int)(hl:l.length<=1000000000):PCall Pg 63 [.one (.sl false 1 (encI l)),.one (.int .i64 x)] (.one (.int .i64 (idxI x l 0))):=by
 refine zg6 (by simp) fun o c hN hp=>?_
 obtain⟨R,hR⟩:∃R,idxI x l 0=R:=⟨_,rfl⟩
 rw[hR]
 unfold zdI
 simp[encI]
 refine W.loop zab hp (fun j:Nat=>j<=l.length/\idxI x (l.drop j) j=R) (fun j=>[(8,.c (.d (.int .i64 j))),(7,.c (.d (.int .i64 l.length))),(1,.c (.d (.int .i64 x))),(0,.c (.d (.sl false 1 (encI l))))]) (fun _=>[]) (fun j=>l.length-j) 0 [] ⟨by simp,by simpa using hR⟩ (by simp[encI]) fun j ⟨i1,i2⟩=>?_
 unfold lp_slices_Index_int_int_0
 simp
 refine gd.mk (fun h=>?_) (fun h=>?_)
 ·have hj:j<l.length:=by simpa using h
  rw[zvC hj]at i2
  have hw:=wrap_i64 (n:=(j:Int)+1) (by omega) (by omega)
  obtain⟨d,hd⟩:∃d,l[j]=d:=⟨_,rfl⟩
  rw[hd]at i2
  by_cases e:x=d
  ·rw[if_pos e]at i2
   simp[encI,hj,hd,e,i2]
  ·rw[if_neg e]at i2
   simp[encI,hj,hd,e]
   refine Abs.Next.mk (j+1) [] ⟨by omega,i2⟩ (by omega) ?_
   simp[hw,encI]
 ·have hj:j=l.length:=by simp at h;omega
  subst hj
  rw[List.drop_length,idxI]at i2
  subst i2
  simp
@[simp] theorem Todo.enc_length(t:Todo):t.enc.length=11:=by simp[Todo.enc]
theorem Todo.enc_eq(t:Todo):t.enc=[.str t.name,.int .i64 t.body.kind,.int .i64 t.body.n,.str t.body.text,.sl false 1 (encI t.body.ints),.sl false 1 (encS t.body.names),.sl false 4 (t.body.types.map Typ.enc),.sl false 5 (t.body.cos.map Coe.enc),.sl false 8 (t.body.kids.map Cor.enc),.sl t.none 1 (encI t.caps),.int .i64 t.deep]:=by
 unfold Todo.enc;rw[t.body.enc_eq];try rfl
@[simp] theorem Todo.get0(t:Todo)(h:0<t.enc.length):t.enc[0]=.str t.name:=by simp only[t.enc_eq];rfl
@[simp] theorem Todo.get9(t:Todo)(h:9<t.enc.length):t.enc[9]=.sl t.none 1 (encI t.caps):=by simp only[t.enc_eq];rfl
@[simp] theorem Todo.get10(t:Todo)(h:10<t.enc.length):t.enc[10]=.int .i64 t.deep:=by simp only[t.enc_eq];rfl
@[simp] theorem Todo.cut_body(t:Todo):cut (t.enc.map AC.d) 1 8=t.body.enc.map AC.d:=by rw[t.enc_eq,t.body.enc_eq];try rfl
theorem zoL(t:Todo)(n:Int)(h:0<=t.deep/\t.deep<=1000000000)(hn:0<=n/\n<=2000000000)(hl:t.caps.length<=1000000000):PCall Pg 38 [.agg t.enc,.one (.int .i64 n)] (.one (.int .i64 (numT t n))):=by
 refine zjy (by simp) fun o c hN hp=>?_
 have hi:=PCall.erd (args:=[.one (.sl t.none 1 (encI t.caps)),.one (.int .i64 n)]) (zxA t.caps n hl) (by simp[DV.erds,DV.erd,D.erd,zhs])
 unfold numT
 unfold mc_clos_todo_number
 by_cases q:t.deep<=n
 ·have hw:=wrap_i64 (n:=n-t.deep) (by omega) (by omega)
  have hw2:=wrap_i64 (n:=n-t.deep+t.caps.length) (by omega) (by omega)
  rw[if_pos q]
  simp[q,hw,hw2,encI]
 ·rw[if_neg q]
  simp[q]
  refine zac.mk hi ?_
  simp
theorem zxB(l:List Cor)(hl:l.length<=1000000000):MCall Pg 42 [.c (.d (.sl false 8 (l.map Cor.enc)))] [] (.c (.msl 8 0 0 l.length)) [.arr 8 ((l.map Cor.enc).map (·.map .d))]:=by
 refine zdP ⟨by simp,by simp,by simp,by simp,by simp,by simp[live],by simp⟩ fun ts hts ok hb c hN hp=>?_
 obtain rfl:=noTs hts
 unfold mc_slices_Clone_api_Core_api_Core
 cases l with
 | nil=>
  simp
  refine⟨owK.mk [.t 2] ?_,owK.mk [] ?_⟩
  ·simp
   exact EndM.mk [0] [] (by simp)
  ·simp
   exact EndM.mk [0] [] (by simp)
 |cons x l=>
  simp
  refine⟨by simp at hl;omega,?_⟩
  refine owK.mk [] ?_
  simp
  exact EndM.mk [0] [] (by simp)
end Go.Gr
namespace Go.Gr
open Go.Abs Go.Proofs
mutual
theorem zhi:∀(c:Cor) (m:Nat) (b x:Int),wfC m c->x∈rawV c b->0<=x/\x<b
 | .mk k n t is ns ts cs ks,m,b,x,h,hx=>by
  rw[wfC]at h
  rw[rawV]at hx
  rcases List.mem_append.1 hx with hx|hx
  ·split at hx
   ·rename_i q
    rw[List.mem_singleton]at hx
    subst hx
    exact⟨(h.2.2.2.1 q.1).1,q.2⟩
   ·cases hx
  ·exact zpx ks m k 0 b x h.2.2.2.2.2 hx
theorem zpx:∀(l:List Cor) (m:Nat) (k:Int) (i:Nat) (b x:Int),wfCs m k l i->x∈za3 l b->0<=x/\x<b
 |[],m,k,i,b,x,h,hx=>by rw[za3]at hx;cases hx
 |c::l,m,k,i,b,x,h,hx=>by
  rw[wfCs]at h
  rw[za3]at hx
  rcases List.mem_append.1 hx with hx|hx
  ·exact zhi c _ b x h.1 hx
  ·exact zpx l m k (i+1) b x h.2 hx
end
mutual
theorem zf9:∀(c:Cor) (b:Int),(rawV c b).length<=csz c
 |.mk k n t is ns ts cs ks,b=>by
  have:=zn2 ks b
  rw[rawV,csz,List.length_append]
  split<;>simp<;>omega
theorem zn2:∀(l:List Cor) (b:Int),(za3 l b).length<=cszs l
 |[],b=>by simp[za3]
 |c::l,b=>by
  have:=zf9 c b
  have:=zn2 l b
  rw[za3,cszs,List.length_append];omega
end
theorem zje(c:Cor)(b:Int):(zcj c b).length<=csz c:=by
 have h1:=(zfg (addL [] (rawV c b))).length_eq
 have h2:=zlL (rawV c b) []
 have h3:=zf9 c b
 unfold zcj
 simp only[List.length_nil]at h2
 omega
theorem zeb{c:Cor}{b x:Int}:x∈zcj c b↔x∈rawV c b:=by
 unfold zcj
 rw[(zfg _).mem_iff,zqS]
 simp
theorem zkP(c:Cor)(b:Int):(zcj c b).Pairwise (· < ·):=ziy _ (ziw (by simp))
theorem zpy(t:Todo)(c:Cor)(deep:Int)(l:List Todo):convC t c deep l=
  if c.kind=4 then(.mk c.kind (numT t c.n) c.text c.ints c.names c.types c.cos c.kids,l)
  else if c.kind=5 then
   (.mk 23 l.length (bs []) ((zcj (c.kids.getD 0 noC) deep).map (numT t)) [] [] [] [],l++[⟨t.name++bs [39],c.kids.getD 0 noC,zcj (c.kids.getD 0 noC) deep,deep,false⟩])
  else(.mk c.kind c.n c.text c.ints c.names c.types c.cos (zbd t c.kind c.kids 0 deep l).1,(zbd t c.kind c.kids 0 deep l).2):=by
 cases c;rw[convC];try rfl
structure TodS (t:Todo):Prop where
 d0:0<=t.deep
 d1:t.deep<=1000000000
 caps:t.caps.length<=1000000000
 name:t.name.size<=100000000000
abbrev todA(l:List Todo):Blk:=.arr 11 ((l.map Todo.enc).map (·.map .d))
abbrev cvB(l:List Todo):List Blk:=[.box [.msl 11 1 0 l.length],todA l]
abbrev cvB'(l:List Todo):List Blk:=[.box [.msl 11 2 0 l.length],.dead,todA l]
def zl5(c:Cor):Prop:=∀(t:Todo) (m:Nat) (l:List Todo),TodS t->wfC m c->m+csz c<=1000000000->l.length+csz c<=1000000000->
 MCall Pg 22 [.c (.ptr 0 0),.ag (t.enc.map .d),.ag (c.enc.map .d),.c (.d (.int .i64 m))] (cvB l) (.ag ((convC t c m l).1.enc.map .d)) (cvB' (convC t c m l).2)
theorem zyo(c:Cor)(x:Int):put (c.enc.map AC.d) 1 [.d (.int .i64 x)]=(Cor.mk c.kind x c.text c.ints c.names c.types c.cos c.kids).enc.map .d:=by
 rw[c.enc_eq,Cor.enc_eq];try rfl
abbrev row7(c:Cor)(x:AC):List AC:=[.d (.int .i64 c.kind),.d (.int .i64 c.n),.d (.str c.text),.d (.sl false 1 (encI c.ints)),.d (.sl false 1 (encS c.names)),.d (.sl false 4 (c.types.map Typ.enc)),.d (.sl false 5 (c.cos.map Coe.enc)),x]
theorem zyp(c:Cor)(x:AC):put (c.enc.map AC.d) 7 [x]=row7 c x:=by
 rw[c.enc_eq];try rfl
theorem zkQ(t:Todo)(k:Int){l:List Cor}{j:Nat}(h:j<l.length)(deep:Int)(q:List Todo):zbd t k (l.drop j) j deep q=((convC t l[j] (if k=18 then deep+j else deep) q).1::(zbd t k (l.drop (j+1)) (j+1) deep (convC t l[j] (if k=18 then deep+j else deep) q).2).1,(zbd t k (l.drop (j+1)) (j+1) deep (convC t l[j] (if k=18 then deep+j else deep) q).2).2):=by
 rw[List.drop_eq_getElem_cons h,zbd]
theorem zfW{m:Nat}{k:Int}(h5:k≠5):∀{l:List Cor} {i j:Nat} (h:j<l.length),wfCs m k l i->wfC (if k=18 then m+(i+j)else m) l[j]
 |c::l,i,0,h,hw=>by
  rw[wfCs,if_neg h5]at hw
  exact hw.1
 |c::l,i,j+1,h,hw=>by
  rw[wfCs]at hw
  have:=zfW h5 (i:=i+1) (j:=j) (by simpa using h) hw.2
  rw[show i+1+j=i+(j+1)from by omega]at this
  exact this
theorem zec:∀{l:List Cor} {j:Nat} (h:j<l.length),j+csz l[j]<=cszs l
 |c::l,0,h=>by rw[cszs];simp
 |c::l,j+1,h=>by
  have:=zec (l:=l) (j:=j) (by simpa using h)
  have:=zbZ c
  rw[cszs]
  simp only[List.getElem_cons_succ]
  omega
theorem zln{α:Type}(f:α->Int):∀l:List α,D.erdE (List.map ((fun i=>[D.int .i64 i])∘f) l)=List.map ((fun i=>[D.int .i64 i])∘f) l
 |[]=>rfl
 |x::l=>by simp[D.erdE,D.erdL,D.erd,zln f l]
theorem set_mid{α:Type}{K l:List α}{j:Nat}(x:α)(h:K.length=j)(hj:j<l.length):(K++l.drop j).set j x=K++x::l.drop (j+1):=by
 rw[List.drop_eq_getElem_cons hj,List.set_append_right _ _ (by omega),h,Nat.sub_self,List.set_cons_zero]
mutual
theorem zed(t:Todo):∀(c:Cor) (m:Int) (l:List Todo),(convC t c m l).2.length<=l.length+csz c
 |.mk k n tx is ns ts cs ks,m,l=>by
  have:=zl6 t k ks 0 m l
  rw[convC,csz]
  simp only
  split
  ·simp only;omega
  split
  ·simp only[List.length_append,List.length_cons,List.length_nil];omega
  ·simp only;omega
theorem zl6(t:Todo)(k:Int):∀(c:List Cor) (i:Nat) (m:Int) (l:List Todo),(zbd t k c i m l).2.length<=l.length+cszs c
 |[],i,m,l=>by simp[zbd,cszs]
 |c::r,i,m,l=>by
  have h1:=zed t c (if k=18 then m+i else m) l
  have h2:=zl6 t k r (i+1) m (convC t c (if k=18 then m+i else m) l).2
  rw[zbd,cszs]
  simp only
  omega
end
abbrev zpk(z:ByteArray):List AC:=[.d (.str z),.d (.int .i64 0),.d (.int .i64 0),.d (.str (bs [])),.d (.sl true 1 []),.d (.sl true 1 []),.d (.sl true 4 []),.d (.sl true 5 []),.d (.sl true 8 []),.d (.sl true 1 []),.d (.int .i64 0)]
theorem zpz(z:ByteArray)(a:Cor):10<=(splice (zpk z) 1 (a.enc.map AC.d)).length:=by rw[zbn];show 10<=11;decide
theorem zn3(z:ByteArray)(a:Cor)(x:AC):11<=(put (splice (zpk z) 1 (a.enc.map AC.d)) 9 [x]).length:=by
 rw[a.enc_eq];exact Nat.le_refl _
theorem zpA(z:ByteArray)(a:Cor)(C:List Int)(m:Int):put (put (splice (zpk z) 1 (a.enc.map AC.d)) 9 [.d (.sl false 1 (encI C))]) 10 [.d (.int .i64 m)]=(Todo.enc ⟨z,a,C,m,false⟩).map .d:=by
 unfold Todo.enc;rw[a.enc_eq];try rfl
set_option maxRecDepth 20000 in
set_option maxHeartbeats 4000000 in
theorem zwF(c:Cor)(ih:∀x,x∈c.kids->zl5 x):zl5 c:=fun t m l hT hc hm hl=>by
 refine zg5 ⟨by simp,by simp,by simp,by simp,by simp,by simp,by simp[live]⟩ fun ts hts ok hbk cx hN hp=>?_
 obtain⟨u,v,rfl⟩:=zpn hts
 have hsz:=zbZ c
 have hkl:=zdi c.kids
 have hwf:c.kind≠23/\(c.kind=18->c.kids.length<=2)/\(c.kind=21->c.kids.length=1/\c.types.length=2)/\(c.kind=4->0<=c.n/\c.n<m/\c.kids=[])/\(c.kind=5->c.kids.length=1)/\wfCs m c.kind c.kids 0:=by
  cases c;rw[wfC]at hc;exact hc
 rw[zpy]
 unfold zdO
 simp
 by_cases c4:c.kind=4
 ·rw[if_pos c4]
  have hn:=hwf.2.2.2.1 c4
  have mn:=zoL t c.n ⟨hT.d0,hT.d1⟩ (by omega) hT.caps
  simp[c4]
  refine zac.mk mn ?_
  simp[zyo]
  refine fzK.mk [] ?_
  simp
  exact EndM.mkE [0,4,1] [2,2] (by simp[AV.erds,AV.erd,c4])
 rw[if_neg c4]
 by_cases c5:c.kind=5
 ·rw[if_pos c5]
  obtain⟨a,ha⟩:∃a,c.kids=[a]:=by
   have:=hwf.2.2.2.2.1 c5
   match h:c.kids,this with
   |[a],_=>exact⟨a,rfl⟩
  have e0:c.kids[0]?.getD noC=a:=by rw[ha];try rfl
  have e00:c.kids.getD 0 noC=a:=by rw[ha];try rfl
  rw[e00]
  have hsa:cszs c.kids=csz a:=by rw[ha];simp[cszs]
  have hwa:wfC (m+1) a:=by
   have:=hwf.2.2.2.2.2
   rw[ha,c5,wfCs]at this
   simpa using this.1
  have hcl:=zje a m
  have hcm:∀x,x∈zcj a m->0<=x/\x<m:=fun x hx=>zhi a _ _ x hwa (zeb.1 hx)
  have hnd:(addL [] (rawV a m)).Nodup:=ziw (by simp)
  have hln:(addL [] (rawV a m)).length<=1073741824:=by
   have h2:=zlL (rawV a m) []
   have h3:=zf9 a m
   simp only[List.length_nil]at h2
   omega
  have hso:=zts _ hnd hln
  rw[zu4 hnd]at hso
  have hga:=zoK a (by omega) m []
  have eC:srtI (addL [] (rawV a m))=zcj a m:=rfl
  rw[eC]at hso
  simp[c4,c5,ha]
  generalize addL [] (rawV a m)=U at*
  refine zaa.mk [6] hga (by simp[mapL]) ?_
  simp
  refine zaa.mk [6] (zw1 U) (by simp;exact fun a b h=>zef h) ?_
  simp
  refine zaa.mk [6,7] hso (by simp;exact fun a b h=>zef h) ?_
  generalize zcj a m=C at*
  simp
  refine owK.mk [.c 8 3] ?_
  simp
  refine W.loop zab hp (fun j:Nat=>j<=C.length) (fun j=>[(48,.c (.d (.int .i64 j))),(47,.c (.d (.int .i64 C.length))),(46,.c (.d (.sl false 1 (encI C)))),(11,.c (.ptr 6 0)),(10,.c (.d (.sl false 1 (encI C)))),(8,.c (.ptr 5 0)),(6,.c (.ptr 4 0)),(5,.c (.d (.rp t.enc 0))),(3,.c (.d (.int .i64 m))),(0,.c (.ptr 0 0))]) (fun j=>[.box [.msl 11 1 0 l.length],todA l,.pin u 0,.pin v 1,.box (c.enc.map .d),.box [.d (.int .i64 0),.d (.int .i64 0),.d (.str (bs [])),.d (.sl true 1 []),.d (.sl true 1 []),.d (.sl true 4 []),.d (.sl true 5 []),.d (.sl true 8 [])],.box [.d (.int .i64 23),.d (.int .i64 l.length),.d (.str (bs [])),.msl 1 7 0 j,.d (.sl true 1 []),.d (.sl true 4 []),.d (.sl true 5 []),.d (.sl true 8 [])],.arr 1 ((encI ((C.take j).map (numT t))).map (·.map .d))]) (fun j=>C.length-j) 0 [0,1,2,3,4,5,8,9] (by simp) (by simp[encI]) fun j h1=>?_
  unfold lp_clos_converter_core_1
  simp
  refine gd.mk (fun h=>?_) (fun h=>?_)
  ·have hj:j<C.length:=by simpa[encI]using h
   have hw:=wrap_i64 (n:=(j:Int)+1) (by omega) (by omega)
   have hx:=hcm _ (List.getElem_mem hj)
   have mn:=zoL t C[j] ⟨hT.d0,hT.d1⟩ (by omega) hT.caps
   have htk:C.take (j+1)=C.take j++[C[j]]:=List.take_succ_eq_append_getElem hj
   simp[encI,hj]
   refine zac.mk mn ?_
   simp[encI]
   refine⟨by omega,by omega,by decide,?_⟩
   refine Abs.Next.mk (j+1) [0,1,2,3,4,5,6,8] (by omega) (by omega) ?_
   simp[hw,encI]
   refine⟨?_,fun x hx=>?_⟩
   ·rw[List.take_take,Nat.min_self,List.take_succ_eq_append_getElem (by simpa using hj)];simp
   ·obtain⟨y,_,e⟩:=List.mem_map.1 (List.mem_of_mem_take hx)
    subst e
    simp
  ·have hj:j=C.length:=by simp[encI]at h;omega
   subst hj
   simp[ha,zpz,zn3,zpA]
   refine⟨by unfold zah;have:=hT.name;omega,by omega,by decide,?_⟩
   refine fzK.mk [7] ?_
   simp
   have htC:List.take C.length (List.map ((fun i=>[D.int .i64 i])∘numT t) C)=List.map ((fun i=>[D.int .i64 i])∘numT t) C:=List.take_of_length_le (by simp)
   have htl:List.take l.length (List.map ((fun x=>List.map AC.d x)∘Todo.enc) l)=List.map ((fun x=>List.map AC.d x)∘Todo.enc) l:=List.take_of_length_le (by simp)
   exact EndM.mkE [0,1,8] [2,2] (by simp[AV.erds,AV.erd,AC.erd,D.erdL,D.erd,D.erdE,Cor.enc,Cor.encs,encI,encS,htC,htl,zln])
 rw[if_neg c5]
 simp[c4,c5]
 refine zaa.mk [] (zxB c.kids (by omega)) (by simp) ?_
 simp[zyp]
 obtain⟨R,hR⟩:∃R,zbd t c.kind c.kids 0 m l=R:=⟨_,rfl⟩
 rw[hR]
 refine W.loop zab hp (fun Y:Nat × List Cor × List Todo=>Y.1<=c.kids.length/\Y.2.1.length=Y.1/\(Y.2.1++(zbd t c.kind (c.kids.drop Y.1) Y.1 m Y.2.2).1,(zbd t c.kind (c.kids.drop Y.1) Y.1 m Y.2.2).2)=R/\Y.2.2.length+cszs (c.kids.drop Y.1)<=1000000000) (fun Y=>[(88,.c (.d (.int .i64 Y.1))),(87,.c (.d (.int .i64 c.kids.length))),(86,.c (.msl 8 5 0 c.kids.length)),(8,.c (.ptr 3 0)),(6,.c (.ptr 2 0)),(5,.c (.d (.rp t.enc 0))),(3,.c (.d (.int .i64 m))),(0,.c (.ptr 0 0))]) (fun Y=>[.box [.msl 11 4 0 Y.2.2.length],.pin u 0,.box (row7 c (.msl 8 5 0 c.kids.length)),.box [.d (.int .i64 0),.d (.int .i64 0),.d (.str (bs [])),.d (.sl true 1 []),.d (.sl true 1 []),.d (.sl true 4 []),.d (.sl true 5 []),.d (.sl true 8 [])],todA Y.2.2,.arr 8 (((Y.2.1++c.kids.drop Y.1).map Cor.enc).map (·.map .d))]) (fun Y=>c.kids.length-Y.1) (0,[],l) [0,2,4,5,1,6] ⟨by simp,rfl,by simpa using hR,by simp;omega⟩ (by simp) fun⟨j,K,q⟩ ⟨i1,i2,i3,i4⟩=>?_
 unfold zdh
 simp only at i1 i2 i3 i4
 simp
 refine gd.mk (fun h=>?_) (fun h=>?_)
 ·have hj:j<c.kids.length:=by simpa using h
  have hw:=wrap_i64 (n:=(j:Int)+1) (by omega) (by omega)
  have hg:(List.map ((fun x=>List.map AC.d x)∘Cor.enc) K++List.drop j (List.map ((fun x=>List.map AC.d x)∘Cor.enc) c.kids))[j]?=some (c.kids[j].enc.map .d):=by
   rw[List.getElem?_append_right (by simp[i2])]
   simp[i2,hj]
  have hset:∀x:Cor,(List.map ((fun x=>List.map AC.d x)∘Cor.enc) K++List.drop j (List.map ((fun x=>List.map AC.d x)∘Cor.enc) c.kids)).set j (x.enc.map .d)=List.map ((fun x=>List.map AC.d x)∘Cor.enc) K++(x.enc.map .d)::List.drop (j+1) (List.map ((fun x=>List.map AC.d x)∘Cor.enc) c.kids):=fun x=>set_mid _ (by simp[i2]) (by simpa using hj)
  have hdl:∀(n:Nat) (x:List AC),x∈List.drop (j+1) (List.map ((fun x=>List.map AC.d x)∘Cor.enc) c.kids)->AC.lts n x=true:=fun n x hx=>by
   obtain⟨c',_,e⟩:=List.mem_map.1 (List.mem_of_mem_drop hx)
   subst e
   simp
  have hwj:=zfW c5 hj hwf.2.2.2.2.2
  have hsj:=zec hj
  have hdj:cszs (c.kids.drop j)=csz c.kids[j]+cszs (c.kids.drop (j+1)):=by rw[List.drop_eq_getElem_cons hj,cszs]
  have hco:=ih _ (List.getElem_mem hj)
  rw[zkQ t c.kind hj]at i3
  obtain⟨d,hd⟩:∃d,c.kids[j]=d:=⟨_,rfl⟩
  rw[hd]at hg hwj hsj hdj hco i3
  by_cases c18:c.kind=18
  ·rw[if_pos c18]at hwj
   simp only[if_pos c18]at i3
   have hwd:=wrap_i64 (n:=(m:Int)+j) (by omega) (by omega)
   have mc:=hco t (m+j) q hT (by simpa using hwj) (by omega) (by omega)
   have hlen:=zed t d (m+j) q
   have em:((m+j:Nat):Int)=(m:Int)+j:=by omega
   rw[em]at mc
   generalize convC t d ((m:Int)+j) q=r at*
   simp[hj,hg,c18,hwd]
   refine zaa.mk [0,4] mc (by simp) ?_
   simp[hj,hg,hset]
   refine⟨by decide,?_⟩
   refine Abs.Next.mk (j+1,K++[r.1],r.2) [0,1,2,3,7,5] ⟨by simp only;omega,by simp[i2],by simpa using i3,by simp only;omega⟩ (by simp only;omega) ?_
   simp[hw]
   exact fun x hx=>hdl 6 x hx
  ·rw[if_neg c18]at hwj
   simp only[if_neg c18]at i3
   have mc:=hco t m q hT (by simpa using hwj) (by omega) (by omega)
   have hlen:=zed t d m q
   generalize convC t d m q=r at*
   simp[hj,hg,c18]
   refine zaa.mk [0,4] mc (by simp) ?_
   simp[hj,hg,hset]
   refine⟨by decide,?_⟩
   refine Abs.Next.mk (j+1,K++[r.1],r.2) [0,1,2,3,7,5] ⟨by simp only;omega,by simp[i2],by simpa using i3,by simp only;omega⟩ (by simp only;omega) ?_
   simp[hw]
   exact fun x hx=>hdl 6 x hx
 ·have hj:j=c.kids.length:=by simp at h;omega
  subst hj
  rw[List.drop_length,zbd]at i3
  subst i3
  have hd:List.drop c.kids.length (List.map ((fun x=>List.map AC.d x)∘Cor.enc) c.kids)=[]:=List.drop_eq_nil_of_le (by simp)
  rw[hd]
  refine fzK.mk [5] ?_
  simp
  have htk:List.take c.kids.length (List.map Cor.enc K)=List.map Cor.enc K:=List.take_of_length_le (by simp[i2])
  exact EndM.mkE [0,2,4] [1,1] (by simp[AV.erds,AV.erd,AC.erd,i2,htk,Cor.enc,Cor.encs_map,zhs,Coe.erdE_map])
end Go.Gr
namespace Go.Gr
open Go.Abs Go.Proofs
mutual
theorem zsw:∀c:Cor,zl5 c
 |.mk k n t is ns ts cs ks=>zwF _ (zqd ks)
theorem zqd:∀(l:List Cor) (x:Cor),x∈l->zl5 x
 |[],x,hx=>by cases hx
 |c::l,x,hx=>by
  rcases List.mem_cons.1 hx with e|hx
  ·rw[e];exact zsw c
  ·exact zqd l x hx
end
mutual
def newT(t:Todo):Cor->Int->List Todo
 |.mk k n tx is ns ts cs ks=>fun deep=>
  if k=4 then []
  else if k=5 then [⟨t.name++bs [39],ks.getD 0 noC,zcj (ks.getD 0 noC) deep,deep,false⟩]
  else zcw t k ks 0 deep
def zcw(t:Todo)(k:Int):List Cor->Nat->Int->List Todo
 |[]=>fun _ _=>[]
 |c::r=>fun i deep=>newT t c (if k=18 then deep+i else deep)++zcw t k r (i+1) deep
end
mutual
theorem zgQ(t:Todo):∀(c:Cor) (m:Int) (l:List Todo),(convC t c m l).2=l++newT t c m
 |.mk k n tx is ns ts cs ks,m,l=>by
  have:=zmu t k ks 0 m l
  rw[convC,newT]
  simp only
  split
  ·simp
  split
  ·rfl
  ·exact this
theorem zmu(t:Todo)(k:Int):∀(c:List Cor) (i:Nat) (m:Int) (l:List Todo),(zbd t k c i m l).2=l++zcw t k c i m
 |[],i,m,l=>by simp[zbd,zcw]
 |c::r,i,m,l=>by
  have h1:=zgQ t c (if k=18 then m+i else m) l
  have h2:=zmu t k r (i+1) m (convC t c (if k=18 then m+i else m) l).2
  rw[zbd,zcw]
  simp only
  rw[h2,h1,List.append_assoc]
end
def sumT(f:Cor->Nat)(l:List Todo):Nat:=(l.map fun t=>f t.body).sum
@[simp] theorem zBp(f:Cor->Nat):sumT f []=0:=rfl
theorem zim(f:Cor->Nat)(a b:List Todo):sumT f (a++b)=sumT f a+sumT f b:=by simp[sumT]
theorem zoo(f:Cor->Nat)(t:Todo)(b:List Todo):sumT f (t::b)=f t.body+sumT f b:=by simp[sumT]
theorem znt{ks:List Cor}(h:ks.length=1):ks=[ks.getD 0 noC]:=by
 match ks,h with
 |[a],_=>rfl
theorem zjx(k:Int)(m i:Nat):(if k=18 then(m:Int)+i else m)=((if k=18 then m+i else m:Nat):Int):=by
 split<;>simp
mutual
theorem zqe(t:Todo):∀(c:Cor) (m:Nat),wfC m c->(newT t c m).length+sumT nfn (newT t c m)=nfn c
 | .mk k n tx is ns ts cs ks,m,h=>by
  rw[wfC]at h
  rw[newT,nfn]
  by_cases k4:k=4
  ·simp only[if_pos k4]
   rw[(h.2.2.2.1 k4).2.2,k4]
   try rfl
  by_cases k5:k=5
  ·simp only[if_neg k4,if_pos k5]
   have e:=znt (h.2.2.2.2.1 k5)
   have e2:nfns ks=nfn (ks.getD 0 noC):=by rw[e];simp[nfns]
   simp only[sumT,e2,List.length_cons,List.length_nil,List.map_cons,List.map_nil,List.sum_cons,List.sum_nil]
   omega
  ·simp only[if_neg k4,if_neg k5]
   rw[zop t k k5 ks m 0 h.2.2.2.2.2]
   omega
theorem zop(t:Todo)(k:Int)(k5:k≠5):∀(l:List Cor) (m i:Nat),wfCs m k l i->(zcw t k l i m).length+sumT nfn (zcw t k l i m)=nfns l
 |[],m,i,h=>by simp[zcw,nfns]
 |c::r,m,i,h=>by
  rw[wfCs,if_neg k5]at h
  have h1:=zqe t c _ h.1
  have h2:=zop t k k5 r m (i+1) h.2
  rw[zcw,nfns]
  simp only
  rw[zjx,List.length_append,zim]
  omega
end
mutual
theorem zqf(t:Todo):∀(c:Cor) (m:Nat),wfC m c->(newT t c m).length+sumT csz (newT t c m)<=csz c
 | .mk k n tx is ns ts cs ks,m,h=>by
  rw[wfC]at h
  rw[newT,csz]
  by_cases k4:k=4
  ·simp only[if_pos k4]
   simp
  by_cases k5:k=5
  ·simp only[if_neg k4,if_pos k5]
   have e:=znt (h.2.2.2.2.1 k5)
   have e2:cszs ks=csz (ks.getD 0 noC):=by rw[e];simp[cszs]
   simp only[sumT,e2,List.length_cons,List.length_nil,List.map_cons,List.map_nil,List.sum_cons,List.sum_nil]
   omega
  ·simp only[if_neg k4,if_neg k5]
   have:=zoq t k k5 ks m 0 h.2.2.2.2.2
   omega
theorem zoq(t:Todo)(k:Int)(k5:k≠5):∀(l:List Cor) (m i:Nat),wfCs m k l i->(zcw t k l i m).length+sumT csz (zcw t k l i m)<=cszs l
 |[],m,i,h=>by simp[zcw]
 |c::r,m,i,h=>by
  rw[wfCs,if_neg k5]at h
  have h1:=zqf t c _ h.1
  have h2:=zoq t k k5 r m (i+1) h.2
  rw[zcw,cszs]
  simp only
  rw[zjx,List.length_append,zim]
  omega
end
structure zkp (t:Todo):Prop where
 ex:∃D:Nat,t.deep=D/\wfC (D+1) t.body/\D+1+csz t.body<=500000000/\(∀x,x∈t.caps->0<=x/\x<D)/\(∀x,x∈rawV t.body D->x∈t.caps)
 name:t.name.size+csz t.body<=50000000000
 caps:t.caps.length<=1000000000
 rise:t.caps.Pairwise (· < ·)
theorem zkp.S{t:Todo}(h:zkp t):TodS t:=by
 obtain⟨D,e,_,b,_⟩:=h.ex
 have:=h.name
 exact⟨by omega,by omega,h.caps,by omega⟩
mutual
theorem zor(t:Todo):∀(c:Cor) (m:Nat),wfC m c->m+csz c<=500000000->t.name.size+csz c<=50000000000->∀q,q∈newT t c m->zkp q
 | .mk k n tx is ns ts cs ks,m,h,hb,hn,q,hq=>by
  rw[wfC]at h
  rw[newT]at hq
  rw[csz]at hb hn
  by_cases k4:k=4
  ·simp only[if_pos k4]at hq
   cases hq
  by_cases k5:k=5
  ·simp only[if_neg k4,if_pos k5,List.mem_singleton]at hq
   subst hq
   have e:=znt (h.2.2.2.2.1 k5)
   have e2:cszs ks=csz (ks.getD 0 noC):=by rw[e];simp[cszs]
   have hw:=h.2.2.2.2.2
   generalize ks.getD 0 noC=a at*
   rw[e,k5,wfCs,if_pos rfl]at hw
   have hl:=zje a m
   refine⟨⟨m,rfl,hw.1,?_,fun x hx=>zhi a _ _ x hw.1 (zeb.1 hx),fun x hx=>zeb.2 hx⟩,?_,?_,zkP a m⟩
   ·simp only;omega
   ·have hb1:(bs [39]).size=1:=rfl
    simp only
    rw[ByteArray.size_append]
    omega
   ·simp only;omega
  ·simp only[if_neg k4,if_neg k5]at hq
   exact zmv t k k5 ks m 0 h.2.2.2.2.2 (by omega) (by omega) q hq
theorem zmv(t:Todo)(k:Int)(k5:k≠5):∀(l:List Cor) (m i:Nat),wfCs m k l i->m+i+cszs l<=500000000->t.name.size+cszs l<=50000000000->∀q,q∈zcw t k l i m->zkp q
 |[],m,i,h,hb,hn,q,hq=>by rw[zcw]at hq;cases hq
 |c::r,m,i,h,hb,hn,q,hq=>by
  rw[wfCs,if_neg k5]at h
  rw[zcw]at hq
  rw[cszs]at hb hn
  have:=zbZ c
  simp only at hq
  rw[zjx]at hq
  rcases List.mem_append.1 hq with hq|hq
  ·exact zor t c _ h.1 (by split<;>omega) (by omega) q hq
  ·exact zmv t k k5 r m (i+1) h.2 (by omega) (by omega) q hq
end
end Go.Gr
namespace Go.Gr
open Go.Abs Go.Proofs
abbrev fltV(l:List Flt):DV:=.one (.sl false 10 (l.map Flt.enc))
@[simp] theorem Flt.enc_length(f:Flt):f.enc.length=10:=by simp[Flt.enc]
@[simp] theorem Fun.get0(f:Fun)(h:0<f.enc.length):f.enc[0]=.str f.name:=rfl
@[simp] theorem Fun.cut_body(f:Fun):cut (f.enc.map AC.d) 5 8=f.body.enc.map .d:=by unfold Fun.enc;rw[f.type.enc_eq,f.body.enc_eq];try rfl
theorem zg0(f:Cor->Nat){l:List Todo}{i:Nat}(h:i<l.length):sumT f (l.drop i)=f l[i].body+sumT f (l.drop (i+1)):=by
 rw[List.drop_eq_getElem_cons h,zoo]
def CvI(l:List Todo)(i:Nat):Prop:=i<=l.length/\(∀t,t∈l->zkp t)/\l.length+sumT csz (l.drop i)<=500000000
theorem CvI.step{l:List Todo}{i:Nat}(h:CvI l i)(hi:i<l.length){D:Nat}(hD:l[i].deep=D)(hw:wfC (D+1) l[i].body)(hb:D+1+csz l[i].body<=500000000):CvI (convC l[i] l[i].body (l[i].deep+1) l).2 (i+1):=by
 obtain⟨h1,h2,h3⟩:=h
 have hm:=h2 _ (List.getElem_mem hi)
 rw[zg0 csz hi]at h3
 have e:l[i].deep+1=((D+1:Nat):Int):=by rw[hD];omega
 rw[zgQ,e]
 have hc:=zqf l[i] l[i].body (D+1) hw
 have hg:=zor l[i] l[i].body (D+1) hw hb hm.name
 refine⟨by simp;omega,fun t ht=>?_,?_⟩
 ·rcases List.mem_append.1 ht with ht|ht
  ·exact h2 t ht
  ·exact hg t ht
 ·rw[List.drop_append_of_le_length (by omega),zim,List.length_append]
  omega
theorem zuo{f:Fun}(h:FunG f):zkp (todo0 f):=by
 have hc:=h.1.2
 have hn:=h.2
 refine⟨⟨0,rfl,h.1.1,by show 0+1+csz f.body<=_;omega,fun x hx=>(by cases hx),fun x hx=>?_⟩,by show f.name.size+csz f.body<=_;omega,by simp[todo0],by simp[todo0]⟩
 have:=zhi f.body _ _ x h.1.1 hx
 omega
theorem CvI.start{p:Prg}(h:PrgG p):CvI (p.funs.map todo0) 0:=by
 refine⟨by simp,fun t ht=>?_,?_⟩
 ·obtain⟨f,hf,e⟩:=List.mem_map.1 ht
  subst e
  exact zuo (h.1 f hf)
 ·have key:∀l:List Fun,(∀f,f∈l->FunG f)->sumT csz (l.map todo0)<=l.length*120005:=fun l=>by
   induction l with
   |nil=>intro _;simp
   |cons f l ih=>
    intro hl
    have h1:=ih fun x hx=>hl x (by simp[hx])
    have h2:=(hl f (by simp)).1.2
    have h3:(todo0 f).body=f.body:=rfl
    rw[List.map_cons,zoo,List.length_cons,h3]
    omega
  have h1:=key p.funs h.1
  have h2:=h.2
  rw[List.drop_zero,List.length_map]
  omega
def psi(l:List Todo)(i:Nat):Nat:=l.length-i+sumT nfn (l.drop i)
theorem zrb{l:List Todo}{i:Nat}(hi:i<l.length){D:Nat}(hD:l[i].deep=D)(hw:wfC (D+1) l[i].body):psi (convC l[i] l[i].body (l[i].deep+1) l).2 (i+1)+1=psi l i:=by
 unfold psi
 have e:l[i].deep+1=((D+1:Nat):Int):=by rw[hD];omega
 rw[zgQ,e]
 have hc:=zqe l[i] l[i].body (D+1) hw
 rw[List.drop_append_of_le_length (by omega),zim,List.length_append,zg0 nfn hi]
 omega
theorem zoW(z:ByteArray)(a:Cor):splice (zpk z) 1 (a.enc.map AC.d)=(Todo.enc ⟨z,a,[],0,true⟩).map .d:=by
 unfold Todo.enc;rw[a.enc_eq];try rfl
abbrev zyw(z:ByteArray)(n:Int):List AC:=[.d (.str z),.d (.int .i64 n),.d (.int .i64 0),.d (.int .i64 0),.d (.str (bs [])),.d (.sl true 1 []),.d (.sl true 1 []),.d (.sl true 4 []),.d (.sl true 5 []),.d (.sl true 8 [])]
theorem zsW(z:ByteArray)(n:Int)(a:Cor):put (zyw z n) 2 (a.enc.map AC.d)=(Flt.enc ⟨z,n,a⟩).map .d:=by
 unfold Flt.enc;rw[a.enc_eq];try rfl
theorem zsX(z:ByteArray)(n:Int)(a:Cor):splice (zyw z n) 2 (a.enc.map AC.d)=(Flt.enc ⟨z,n,a⟩).map .d:=by
 unfold Flt.enc;rw[a.enc_eq];try rfl
abbrev fltA(l:List Flt):Blk:=.arr 10 ((l.map Flt.enc).map (·.map .d))
set_option maxRecDepth 20000 in
set_option maxHeartbeats 4000000 in
theorem zm6(p:Prg)(hp0:PrgG p):PCall Pg 11 [.agg p.enc] (fltV (ze3 p)):=by
 refine znu (by simp) fun o cx hN hp=>?_
 obtain⟨R,hR⟩:∃R,ze3 p=R:=⟨_,rfl⟩
 rw[hR]
 have hpl:=hp0.2
 have pe0:p.enc[0]?=some (.sl false 13 (p.funs.map Fun.enc)):=rfl
 unfold zgR
 simp[pe0]
 refine owK.mk [.c 0 0] ?_
 simp
 refine W.loop zab hp (fun j:Nat=>j<=p.funs.length) (fun j=>[(14,.c (.d (.int .i64 j))),(13,.c (.d (.int .i64 p.funs.length))),(12,.c (.d (.sl false 13 (p.funs.map Fun.enc)))),(3,.c (.ptr 0 0))]) (fun j=>[.box [.msl 11 1 0 j],todA ((p.funs.take j).map todo0)]) (fun j=>p.funs.length-j) 0 [0,1] (by simp) (by simp) fun j h1=>?_
 unfold zfC
 simp
 refine gd.mk (fun h=>?_) (fun h=>?_)
 ·have hj:j<p.funs.length:=by simpa using h
  have hw:=wrap_i64 (n:=(j:Int)+1) (by omega) (by omega)
  obtain⟨f,hf⟩:∃f,p.funs[j]=f:=⟨_,rfl⟩
  have htk:p.funs.take (j+1)=p.funs.take j++[f]:=by rw[List.take_succ_eq_append_getElem hj,hf]
  simp[hj,hf,zoW]
  refine⟨by omega,by omega,by decide,?_⟩
  refine Abs.Next.mk (j+1) [0,3] (by omega) (by omega) ?_
  simp[hw]
  refine⟨?_,fun x hx=>?_⟩
  ·rw[List.take_take,Nat.min_self,List.take_succ_eq_append_getElem (by simpa using hj)]
   simp[hf,todo0]
  ·obtain⟨y,_,e⟩:=List.mem_map.1 (List.mem_of_mem_take hx)
   subst e
   simp
 ·have hj:j=p.funs.length:=by simp at h;omega
  subst hj
  simp
  refine owK.mk [.t 6] ?_
  simp
  have hst:=CvI.start hp0
  have hpf:p.funs.length+nfns (p.funs.map (·.body))=psi (p.funs.map todo0) 0:=by
   unfold psi sumT
   have key:∀l:List Fun,nfns (l.map (·.body))=((l.map todo0).map fun t=>nfn t.body).sum:=fun l=>by
    induction l with
    |nil=>simp[nfns]
    |cons f l ih=>simp only[List.map_cons,nfns,ih,List.sum_cons];rfl
   rw[key];simp
  unfold ze3 nfnF at hR
  rw[hpf]at hR
  have hlen0:p.funs.length=(p.funs.map todo0).length:=by simp
  have hlm:List.map (List.map AC.d) (List.map (Todo.enc∘todo0) p.funs)=((p.funs.map todo0).map Todo.enc).map (·.map .d):=by simp
  refine W.loop zab hp (fun Y:Nat × List Todo × List Flt=>CvI Y.2.1 Y.1/\Y.2.2.length=Y.1/\zgV (psi Y.2.1 Y.1+1) Y.1 Y.2.1 Y.2.2=R) (fun Y=>[(7,.c (.d (.int .i64 Y.1))),(6,.c (.msl 10 2 0 Y.2.2.length)),(3,.c (.ptr 0 0))]) (fun Y=>[.box [.msl 11 1 0 Y.2.1.length],todA Y.2.1,fltA Y.2.2]) (fun Y=>psi Y.2.1 Y.1) (0,p.funs.map todo0,[]) [0,1,2] ⟨hst,rfl,hR⟩ (by simp;exact List.take_of_length_le (by simp)) fun⟨i,l,o⟩ ⟨i1,i2,i3⟩=>?_
  unfold zfD
  simp only at i1 i2 i3
  simp
  refine gd.mk (fun h=>?_) (fun h=>?_)
  ·have hi:i<l.length:=by simpa using h
   have h500:=i1.2.2
   have hw:=wrap_i64 (n:=(i:Int)+1) (by omega) (by omega)
   have htg:=i1.2.1 _ (List.getElem_mem hi)
   obtain⟨D,hD,hwf,hb,hcp,_⟩:=htg.ex
   have hst2:=i1.step hi hD hwf hb
   have hps:=zrb hi hD hwf
   rw[zg0 csz hi]at h500
   obtain⟨t,ht⟩:∃t,l[i]=t:=⟨_,rfl⟩
   rw[<-hps]at i3
   rw[zgV,List.getElem?_eq_getElem hi]at i3
   simp only at i3
   rw[ht]at htg hD hwf hb hst2 hps i3 h500
   have mc:=zsw t.body t (D+1) l htg.S hwf (by omega) (by omega)
   have em:((D+1:Nat):Int)=t.deep+1:=by rw[hD];omega
   rw[em]at mc
   have hwd:=wrap_i64 (n:=t.deep+1) (by omega) (by omega)
   have hTn:t.caps.length<=1000000000:=htg.caps
   generalize convC t t.body (t.deep+1) l=r at*
   simp[hi,ht,hwd]
   refine zaa.mk [0,1] mc (by simp) ?_
   simp[zsW,zsX]
   refine⟨by omega,by decide,?_⟩
   have hto:List.take o.length (List.map ((fun x=>List.map AC.d x)∘Flt.enc) o)=List.map ((fun x=>List.map AC.d x)∘Flt.enc) o:=List.take_of_length_le (by simp)
   refine Abs.Next.mk (i+1,r.2,o++[⟨t.name,t.caps.length,r.1⟩]) [0,4,5] ⟨hst2,by simp[i2],i3⟩ (by simp only;omega) ?_
   simp[hw,hto]
  ·have hi:i=l.length:=by have:=i1.1;simp at h;omega
   subst hi
   have e0:psi l l.length=0:=by simp[psi]
   rw[e0,zgV,List.getElem?_eq_none (Nat.le_refl _)]at i3
   simp only at i3
   subst i3
   refine fzK.mk [2] ?_
   simp
   exact List.take_of_length_le (by simp)
end Go.Gr
namespace Go.Gr
open Go.Abs Go.Proofs
inductive Run:Nat->List Todo->List Flt->List Todo->Prop
 |done (l:List Todo):Run l.length l [] l
 |step {i:Nat} {l:List Todo} {t:Todo} {fs:List Flt} {lf:List Todo} (h:l[i]?=some t) (r:Run (i+1) (l++newT t t.body (t.deep+1)) fs lf):Run i l (⟨t.name,t.caps.length,(convC t t.body (t.deep+1) l).1⟩::fs) lf
end Go.Gr
namespace Go.Gr
open Go.Abs Go.Proofs
@[simp] theorem Flt.get1(f:Flt)(h:1<f.enc.length):f.enc[1]=.int .i64 f.caps:=rfl
@[simp] theorem Flt.get0(f:Flt)(h:0<f.enc.length):f.enc[0]=.str f.name:=rfl
end Go.Gr
namespace Go.Gr
open Go.Abs Go.Proofs
def awkS:List (ByteArray × ByteArray):=[(bs [109,97,105,110],bs [102,110,32,109,97,105,110,40,120,41,32,61,32,102,110,32,40,121,58,32,105,110,116,41,32,61,62,32,120,32,61,61,32,121,59])]
def awkB:Bool:=(programP awkS).2&&match ze3 (programP awkS).1 with
 |[a,b]=>decide (b.name=bs [109,97,105,110,46,109,97,105,110,39])&&(decide (b.caps=1)&&(decide (b.body.kind=14)&&decide (a.caps=0)))
 |_=>false
set_option maxRecDepth 100000 in
theorem zvB:awkB=true:=by decide+kernel
theorem zxz:(programP awkS).2=true/\∃a b:Flt,ze3 (programP awkS).1=[a,b]/\b.name=bs [109,97,105,110,46,109,97,105,110,39]/\b.caps=1/\b.body.kind=14/\a.caps=0:=by
 have h:=zvB
 unfold awkB at h
 rw[Bool.and_eq_true]at h
 refine⟨h.1,?_⟩
 have h2:=h.2
 split at h2
 ·rename_i a b e
  simp only[Bool.and_eq_true,decide_eq_true_eq]at h2
  exact⟨a,b,e,h2⟩
 ·cases h2
@[simp] theorem Flt.get2(f:Flt)(h:2<f.enc.length):f.enc[2]=.int .i64 f.body.kind:=by
 have:f.enc=.str f.name::.int .i64 f.caps::f.body.enc:=rfl
 simp only[this,f.body.enc_eq]
 rfl
@[simp] theorem Prg.get0(p:Prg)(h:0<p.enc.length):p.enc[0]=.sl false 13 (p.funs.map Fun.enc):=rfl
set_option maxRecDepth 20000 in
theorem ztV:PCall Pg 6 [] (.one (.bool true)):=by
 refine zrD (by simp) fun o cx hN hp=>?_
 obtain⟨h1,a,b,h2,h3,h4,h5,h6⟩:=zxz
 have mp:=PCall.erd (args:=[.one (.sl true 2 [[.str (bs [109,97,105,110]),.str (bs [102,110,32,109,97,105,110,40,120,41,32,61,32,102,110,32,40,121,58,32,105,110,116,41,32,61,62,32,120,32,61,61,32,121,59])]])]) (zni awkS) (by simp[DV.erds,DV.erd,D.erd,D.erdE,D.erdL,awkS,srcE])
 have hc:=zm6 _ (programP_good awkS)
 rw[h2]at hc
 generalize programP awkS=r at*
 unfold mc_w13_awake
 simp
 refine zac.mk mp ?_
 simp[h1]
 refine zac.mk hc ?_
 simp[h3,h4,h5,h6]
end Go.Gr
namespace Go.Gr
open Go.Abs Go.Proofs
def zgu:MC:=(fun x (_:x=gC tt [] [(5,[0,0,2,6,14,0,32,0,224,480,992,0,2048,0,14336,30720,63488,131040,262112,524286,1048575,2097151,4194303])] [] (gLb 0 (gB Tryz.f9)))=>x) _ (by dsimp[Tryz.f9])
def zgv:MC:=(fun x (_:x=gC tt [(9,20)] [(7,[0,1,3,7,0,16,48,112,240,511]),(8,[0,1,3,7,0,16,48,112,255,511,0,2047])] [] (gLb 2 (gB Tryz.f9)))=>x) _ (by dsimp[Tryz.f9])
def zhP:MC:=(fun x (_:x=gC tt [(0,9),(6,0),(6,2),(7,1)] [] [(0,zgu),(2,zgv)] (gB Tryz.f9))=>x) _ (by dsimp[Tryz.f9])
theorem zpc:WT Pg 9 84 zhP [.tmp 2]:=wT zab Tryz.func9 (by kernel_rfl)
def lp_g13_Work_convert_1:MC:=(fun x (_:x=gC tt [(9,34)] [(12,[0,1,0,0,0,24,56,124,252,511,1023,2047])] [] (gLb 1 (gB Tryz.f20)))=>x) _ (by dsimp[Tryz.f20])
def zek:MC:=(fun x (_:x=gC tt [(9,20)] [] [] (gLb 3 (gB Tryz.f20)))=>x) _ (by dsimp[Tryz.f20])
def zeI:MC:=(fun x (_:x=gC tt [(0,4),(9,34),(9,35),(4,59),(6,1),(6,3),(7,1)] [(7,[0,0,2,6,14,0,32,96,224,0,512,1536,3584,8160,16352,32736,65504,0,131072,393216,917504,0,0,8388576,16777184,33554430,67108863,134217727,268435455])] [(1,lp_g13_Work_convert_1),(3,zek)] (gB Tryz.f20))=>x) _ (by dsimp[Tryz.f20])
theorem zi9:WM Pg 20 117 zeI [.cell 6 true 8]:=wM zab Tryz.func20 (by kernel_rfl)
def lp_g13_Work_number_0:MC:=(fun x (_:x=gC tt [] [] [] (gLb 0 (gB Tryz.f34)))=>x) _ (by dsimp[Tryz.f34])
def zfj:MC:=(fun x (_:x=gC tt [] [(1,[0,1,3,7,0,16,48,112,255,511,0,2047])] [(0,lp_g13_Work_number_0)] (gB Tryz.f34))=>x) _ (by dsimp[Tryz.f34])
theorem zjT:WM Pg 34 40 zfj [.tmp 4]:=wM zab Tryz.func34 (by kernel_rfl)
def lp_g13_free_0:MC:=(fun x (_:x=gC tt [] [(3,[0,0,2,7,15,31,31,127,255,31,543,2047,4095])] [] (gLb 0 (gB Tryz.f35)))=>x) _ (by dsimp[Tryz.f35])
def zcV:MC:=(fun x (_:x=gC tt [(9,35)] [] [] (gLb 2 (gB Tryz.f35)))=>x) _ (by dsimp[Tryz.f35])
def zcv:MC:=(fun x (_:x=gC tt [(5,18)] [(5,[0,0,2,7,15,31,31,127,255,31,543,2047,4095]),(7,[0,0,3,0,8,24,63,127])] [(0,lp_g13_free_0),(2,zcV)] (gB Tryz.f35))=>x) _ (by dsimp[Tryz.f35])
theorem zk9:WM Pg 35 77 zcv [.tmp 6]:=wM zab Tryz.func35 (by kernel_rfl)
def lp_w13_Flats_0:MC:=(fun x (_:x=gC tt [] [(6,[0,0,3,7,15,0,0,96,224,480,1023,2047]),(7,[0,1,3,7,7,31,63,127,7,7,775,1799,3847,8191,16383,32767,65535,65535,262143,524287,1048575,65535,65535,6356991,14745599,31522815,67108863,134217727])] [] (gLb 0 (gB Tryz.f10)))=>x) _ (by dsimp[Tryz.f10])
def zjU:MC:=(fun x (_:x=gC tt [] [] [(0,lp_w13_Flats_0)] (gB Tryz.f10))=>x) _ (by dsimp[Tryz.f10])
theorem zrZ:WT Pg 10 57 zjU [.tmp 4]:=wT zab Tryz.func10 (by kernel_rfl)
def lp_w12_Cores_0:MC:=(fun x (_:x=gC tt [] [(7,[0,1,0,7,15,0,32,0,224,480,1023])] [] (gLb 0 (gB Tryz.f21)))=>x) _ (by dsimp[Tryz.f21])
def zhQ:MC:=(fun x (_:x=gC tt [] [(12,[0,1,0,7,15,0,32,0,224,480,1023,2047])] [] (gLb 2 (gB Tryz.f21)))=>x) _ (by dsimp[Tryz.f21])
def zhR:MC:=(fun x (_:x=gC tt [] [(18,[0,1,0,7,15,0,32,0,224,480,1023,2047])] [] (gLb 4 (gB Tryz.f21)))=>x) _ (by dsimp[Tryz.f21])
def zjV:MC:=(fun x (_:x=gC tt [] [] [(0,lp_w12_Cores_0),(2,zhQ),(4,zhR)] (gB Tryz.f21))=>x) _ (by dsimp[Tryz.f21])
theorem zr0:WT Pg 21 133 zjV [.tmp 4]:=wT zab Tryz.func21 (by kernel_rfl)
def lp_w12_texts_0:MC:=(fun x (_:x=gC tt [] [(6,[0,0,3,7,0,0,48,112,255])] [] (gLb 0 (gB Tryz.f36)))=>x) _ (by dsimp[Tryz.f36])
def zjW:MC:=(fun x (_:x=gC tt [] [] [(0,lp_w12_texts_0)] (gB Tryz.f36))=>x) _ (by dsimp[Tryz.f36])
theorem zr1:WT Pg 36 26 zjW [.tmp 4]:=wT zab Tryz.func36 (by kernel_rfl)
def mc_w13_ClosConverts:MC:=(fun x (_:x=gC tt [] [] [] (gB Tryz.f3))=>x) _ (by dsimp[Tryz.f3])
theorem zjX:WT Pg 3 48 mc_w13_ClosConverts [.tmp 4]:=wT zab Tryz.func3 (by kernel_rfl)
def lv_g10_Same_0:List Nat:=[2,3,5]
def zfr:MC:=(fun x (_:x=gC tt [] [(6,[0,1,0,7,15,0,32,0,224,480,1023])] [] (gLb 0 (gB Tryz.f37)))=>x) _ (by dsimp[Tryz.f37])
def zfs:List Nat:=[2,3,6]
def zft:MC:=(fun x (_:x=gC tt [] [(11,[0,1,0,7,15,0,32,0,224,480,1023])] [] (gLb 2 (gB Tryz.f37)))=>x) _ (by dsimp[Tryz.f37])
def zfu:List Nat:=[2,3,7]
def zfv:MC:=(fun x (_:x=gC tt [] [(16,[0,1,0,7,15,0,32,0,224,480,1023])] [] (gLb 4 (gB Tryz.f37)))=>x) _ (by dsimp[Tryz.f37])
def zfw:List Nat:=[2,3,8]
def zfx:MC:=(fun x (_:x=gC tt [] [(21,[0,1,0,7,15,0,32,0,224,480,1023,2047])] [] (gLb 6 (gB Tryz.f37)))=>x) _ (by dsimp[Tryz.f37])
def zfy:List Nat:=[2,3,10]
def zfz:MC:=(fun x (_:x=gC tt [] [(27,[0,1,0,7,15,0,32,0,224,480,1023,2047])] [] (gLb 8 (gB Tryz.f37)))=>x) _ (by dsimp[Tryz.f37])
def zha:MC:=(fun x (_:x=gC tt [] [] [(0,zfr),(2,zft),(4,zfv),(6,zfx),(8,zfz)] (gB Tryz.f37))=>x) _ (by dsimp[Tryz.f37])
theorem zmY:WT Pg 37 149 zha [.tmp 4]:=wT zab Tryz.func37 (by kernel_rfl)
def mc_g10_IsId:MC:=(fun x (_:x=gC tt [] [(1,[0,0,3,7])] [] (gB Tryz.f33))=>x) _ (by dsimp[Tryz.f33])
theorem zt5:WT Pg 33 6 mc_g10_IsId [.tmp 2]:=wT zab Tryz.func33 (by kernel_rfl)
def mc_g10_Id:MC:=(fun x (_:x=gC tt [(1,1)] [] [] (gB Tryz.f62))=>x) _ (by dsimp[Tryz.f62])
theorem zxW:WT Pg 62 3 mc_g10_Id [.cell 0 true 5]:=wT zab Tryz.func62 (by kernel_rfl)
theorem wm_g10_Id:WM Pg 62 3 mc_g10_Id [.cell 0 true 5]:=wM zab Tryz.func62 (by kernel_rfl)
def lv_g10_May_0:List Nat:=[1,4]
def zjY:MC:=(fun x (_:x=gC tt [] [] [] (gLb 0 (gB Tryz.f60)))=>x) _ (by dsimp[Tryz.f60])
def zmZ:MC:=(fun x (_:x=gC tt [] [] [(0,zjY)] (gB Tryz.f60))=>x) _ (by dsimp[Tryz.f60])
theorem zv2:WT Pg 60 74 zmZ [.tmp 2]:=wT zab Tryz.func60 (by kernel_rfl)
def lp_g10_own_2:MC:=(fun x (_:x=gC tt [] [(13,[0,1,0,7,15,31,0,64,0,448,960,1984,4095])] [] (gLb 2 (gB Tryz.f95)))=>x) _ (by dsimp[Tryz.f95])
def zgw:MC:=(fun x (_:x=gC tt [] [] [(2,lp_g10_own_2)] (gLb 0 (gB Tryz.f95)))=>x) _ (by dsimp[Tryz.f95])
def zgx:MC:=(fun x (_:x=gC tt [] [(18,[0,1,0,7,15,0,32,0,128,480,992,2047])] [] (gLb 4 (gB Tryz.f95)))=>x) _ (by dsimp[Tryz.f95])
def zm0:MC:=(fun x (_:x=gC tt [] [] [(0,zgw),(4,zgx)] (gB Tryz.f95))=>x) _ (by dsimp[Tryz.f95])
theorem zv3:WT Pg 95 106 zm0 [.tmp 2]:=wT zab Tryz.func95 (by kernel_rfl)
def mc_g10_pair:MC:=(fun x (_:x=gC tt [] [] [] (gB Tryz.f93))=>x) _ (by dsimp[Tryz.f93])
theorem zt6:WT Pg 93 18 mc_g10_pair [.tmp 4]:=wT zab Tryz.func93 (by kernel_rfl)
def mc_g10_put:MC:=(fun x (_:x=gC tt [(0,3)] [] [] (gB Tryz.f97))=>x) _ (by dsimp[Tryz.f97])
theorem ziF:WM Pg 97 25 mc_g10_put [.cell 6 true 5]:=wM zab Tryz.func97 (by kernel_rfl)
def lv_g10_field_0:List Nat:=[1,2,4,5]
def zhS:MC:=(fun x (_:x=gC tt [] [] [] (gLb 0 (gB Tryz.f98)))=>x) _ (by dsimp[Tryz.f98])
def zjZ:MC:=(fun x (_:x=gC tt [] [] [(0,zhS)] (gB Tryz.f98))=>x) _ (by dsimp[Tryz.f98])
theorem zr2:WT Pg 98 26 zjZ [.cell 4 true 5]:=wT zab Tryz.func98 (by kernel_rfl)
def lp_g10_names_0:MC:=(fun x (_:x=gC tt [(5,7)] [(5,[0,0,2,7,15,31,31,95,255,511,1023,1023,4095,8191,1023,1023,50175,115711,262143,524287,1048575]),(9,[0,0,2,7,15,31,31,127,255,31,31,1567,3615,8191,16383])] [] (gLb 0 (gB Tryz.f96)))=>x) _ (by dsimp[Tryz.f96])
def zj0:MC:=(fun x (_:x=gC tt [(5,7)] [] [(0,lp_g10_names_0)] (gB Tryz.f96))=>x) _ (by dsimp[Tryz.f96])
theorem zr3:WT Pg 96 75 zj0 [.tmp 4]:=wT zab Tryz.func96 (by kernel_rfl)
def lp_g10_record_0:MC:=(fun x (_:x=gC tt [(3,44)] [(5,[0,0,2,6,0,30,62,0,128,384,0,1920,3968,0,0,32640,65535,131071])] [] (gLb 0 (gB Tryz.f94)))=>x) _ (by dsimp[Tryz.f94])
def zgX:MC:=(fun x (_:x=gC tt [(3,102)] [(10,[0,1,0,4,12,0,60,124,255,511,1023,1023,0,6143,16383]),(12,[0,1,0,4,12,0,60,124,0,508,1020,2047,4095,8191]),(14,[0,0,2,6,0,30,62,0,0,256,768,0,3840,7936,0,32640,65535,131071])] [] (gLb 2 (gB Tryz.f94)))=>x) _ (by dsimp[Tryz.f94])
def zi7:MC:=(fun x (_:x=gC tt [(0,4),(5,14),(7,1)] [] [(0,lp_g10_record_0),(2,zgX)] (gB Tryz.f94))=>x) _ (by dsimp[Tryz.f94])
theorem zpd:WM Pg 94 104 zi7 [.cell 8 true 5]:=wM zab Tryz.func94 (by kernel_rfl)
def lp_g10_made_2:MC:=(fun x (_:x=gC tt [] [(11,[0,0,2,7,15,31,31,127,255,511,31,1055,4095,8191])] [] (gLb 2 (gB Tryz.f59)))=>x) _ (by dsimp[Tryz.f59])
def zfA:MC:=(fun x (_:x=gC tt [(9,94)] [(17,[0,1,3,7,15,0,32,96,224,480,0,1024,4095,0,8192,24576,57344,122880,0,262144,786432,1835008,3932160,0,16777215,33554431,67108863,134217727])] [(2,lp_g10_made_2)] (gLb 0 (gB Tryz.f59)))=>x) _ (by dsimp[Tryz.f59])
def zhb:MC:=(fun x (_:x=gC tt [(3,14),(7,1)] [] [(0,zfA)] (gB Tryz.f59))=>x) _ (by dsimp[Tryz.f59])
theorem zm1:WT Pg 59 107 zhb [.cell 6 true 5]:=wT zab Tryz.func59 (by kernel_rfl)
def mc_g10_Make:MC:=(fun x (_:x=gC tt [] [] [] (gB Tryz.f30))=>x) _ (by dsimp[Tryz.f30])
theorem zt7:WT Pg 30 33 mc_g10_Make [.cell 6 true 5]:=wT zab Tryz.func30 (by kernel_rfl)
def mc_g10_Compose:MC:=(fun x (_:x=gC tt [] [] [] (gB Tryz.f31))=>x) _ (by dsimp[Tryz.f31])
theorem zpe:WT Pg 31 21 mc_g10_Compose [.cell 4 true 5]:=wT zab Tryz.func31 (by kernel_rfl)
def lp_g10_composed_0:MC:=(fun x (_:x=gC tt [] [(5,[0,1,0,0,8,0,56,120,255,511]),(7,[0,1,0,0,8,0,56,120,255,511])] [] (gLb 0 (gB Tryz.f61)))=>x) _ (by dsimp[Tryz.f61])
def zfE:MC:=(fun x (_:x=gC tt [] [(16,[0,1,3,7,3,31,63,127,3,259,3,1795,3843,7939,16383,32767,65535])] [] (gLb 4 (gB Tryz.f61)))=>x) _ (by dsimp[Tryz.f61])
def zcx:MC:=(fun x (_:x=gC tt [] [(18,[0,1,0,4,0,28,60,124,255,511,1023])] [(4,zfE)] (gLb 2 (gB Tryz.f61)))=>x) _ (by dsimp[Tryz.f61])
def zcy:MC:=(fun x (_:x=gC tt [(3,134),(5,11)] [(23,[0,0,0,6,14,0,0,0,192,448,992,0,0,0,12288,28672,65504,131040,262143,524287])] [] (gLb 6 (gB Tryz.f61)))=>x) _ (by dsimp[Tryz.f61])
def zgY:MC:=(fun x (_:x=gC tt [(3,14),(5,43),(4,98),(5,11),(4,135)] [(32,[0,1,3,0,8,24,63,0,128,384,0,1024,3072,8191,16383,32767,65535])] [(0,lp_g10_composed_0),(2,zcx),(6,zcy)] (gB Tryz.f61))=>x) _ (by dsimp[Tryz.f61])
theorem znJ:WT Pg 61 188 zgY [.cell 4 true 5]:=wT zab Tryz.func61 (by kernel_rfl)
def lp_g12_Norm_0:MC:=(fun x (_:x=gC tt [] [] [] (gLb 0 (gB Tryz.f8)))=>x) _ (by dsimp[Tryz.f8])
def zla:MC:=(fun x (_:x=gC tt [(4,40),(6,0)] [] [(0,lp_g12_Norm_0)] (gB Tryz.f8))=>x) _ (by dsimp[Tryz.f8])
theorem zt8:WT Pg 8 41 zla [.cell 4 true 3]:=wT zab Tryz.func8 (by kernel_rfl)
def lp_g12_plain_0:MC:=(fun x (_:x=gC tt [] [] [] (gLb 0 (gB Tryz.f18)))=>x) _ (by dsimp[Tryz.f18])
def zj1:MC:=(fun x (_:x=gC tt [(0,1),(4,23),(6,0)] [(7,[0,1,3,7,0,16,48,112,0,256,768,1792,4095,8191,0,32767,65535])] [(0,lp_g12_plain_0)] (gB Tryz.f18))=>x) _ (by dsimp[Tryz.f18])
theorem zr4:WT Pg 18 43 zj1 [.cell 2 true 8]:=wT zab Tryz.func18 (by kernel_rfl)
def lp_g12_trimmed_0:MC:=(fun x (_:x=gC tt [] [] [] (gLb 0 (gB Tryz.f19)))=>x) _ (by dsimp[Tryz.f19])
def zgy:MC:=(fun x (_:x=gC tt [] [(12,[0,1,3,7,0,31,63])] [] (gLb 2 (gB Tryz.f19)))=>x) _ (by dsimp[Tryz.f19])
def zhT:MC:=(fun x (_:x=gC tt [(0,1),(4,24),(6,0)] [] [(0,lp_g12_trimmed_0),(2,zgy)] (gB Tryz.f19))=>x) _ (by dsimp[Tryz.f19])
theorem zpf:WT Pg 19 82 zhT [.cell 2 true 8]:=wT zab Tryz.func19 (by kernel_rfl)
def mc_g12_tag:MC:=(fun x (_:x=gC tt [] [] [] (gB Tryz.f32))=>x) _ (by dsimp[Tryz.f32])
theorem zv4:WT Pg 32 17 mc_g12_tag [.tmp 2]:=wT zab Tryz.func32 (by kernel_rfl)
end Go.Gr
namespace Go.Gr
open Go.Abs Go.Proofs
def ins1(l:List Int)(x:Int):List Int:=if x∈l then l else putI x l
theorem znn{x:Int}:∀(l:List Int) (k:Nat),k<=l.length->(∀y,y∈l.take k->y<x)->(∀h:k<l.length,x<=l[k])->putI x l=l.take k++x::l.drop k
 |[],k,hk,h1,h2=>by
  have:k=0:=by simpa using hk
  subst this
  rfl
 |y::l,0,hk,h1,h2=>by
  have:=h2 (by simp)
  rw[putI,if_pos (by simpa using this)]
  try rfl
 |y::l,k+1,hk,h1,h2=>by
  have hy:y<x:=h1 y (by simp)
  rw[putI,if_neg (by omega),znn l k (by simpa using hk) (fun z hz=>h1 z (by simp[hz])) (fun h=>h2 (by simpa using h))]
  try rfl
theorem zwJ{l:List Int}{x y:Int}:y∈ins1 l x↔y∈l\/y=x:=by
 unfold ins1
 split
 ·rename_i h
  exact⟨.inl,fun h'=>h'.elim id fun e=>e▸h⟩
 ·rw[(zff x l).mem_iff,List.mem_cons]
  exact Or.comm
theorem zl9{l:List Int}{x:Int}(h:l.Pairwise (· < ·)):(ins1 l x).Pairwise (· < ·):=by
 unfold ins1
 split
 ·exact h
 ·rename_i q
  exact zix x l h q
theorem zpK(l:List Int)(x:Int):(ins1 l x).length<=l.length+1:=by
 unfold ins1
 split
 ·omega
 ·have:=(zff x l).length_eq
  simp only[List.length_cons]at this
  omega
def za9(l r:List Int):List Int:=r.foldl ins1 l
theorem zgL(l a b:List Int):za9 l (a++b)=za9 (za9 l a) b:=by simp[za9]
@[simp] theorem zee(l:List Int):za9 l []=l:=rfl
theorem zn6:∀{r l:List Int} {y:Int},y∈za9 l r↔y∈l\/y∈r
 |[],l,y=>by simp[za9]
 |x::r,l,y=>by
  have:za9 l (x::r)=za9 (ins1 l x) r:=rfl
  rw[this,zn6,zwJ,List.mem_cons,or_assoc]
theorem zeZ:∀{r l:List Int},l.Pairwise (· < ·)->(za9 l r).Pairwise (· < ·)
 |[],l,h=>h
 |x::r,l,h=>zeZ (r:=r) (zl9 h)
theorem zjk:∀(r l:List Int),(za9 l r).length<=l.length+r.length
 |[],l=>Nat.le_refl _
 |x::r,l=>by
  have h1:=zjk r (ins1 l x)
  have h2:=zpK l x
  have:za9 l (x::r)=za9 (ins1 l x) r:=rfl
  rw[this,List.length_cons];omega
theorem ztp{l k:List Int}(h1:l.Pairwise (· < ·))(h2:k.Pairwise (· < ·))(h:∀x,x∈l↔x∈k):l=k:=
 List.Perm.eq_of_pairwise (le:=(· < ·)) (fun a b _ _ p q=>by omega) h1 h2 ((List.perm_ext_iff_of_nodup (h1.imp fun h e=>by omega) (h2.imp fun h e=>by omega)).2 h)
theorem ztq(c:Cor)(b:Int):za9 [] (rawV c b)=zcj c b:=
 ztp (zeZ (by simp)) (zkP c b) fun x=>by rw[zn6,zeb];simp
def numR(t:Todo)(n:Int):Int:=if n∈t.caps then idxI n t.caps 0 else n-t.deep+t.caps.length
theorem zn7{t:Todo}{D:Nat}(hD:t.deep=D)(hc:∀x,x∈t.caps->0<=x/\x<D){n:Int}(h:n∈t.caps\/(D:Int)<=n):numR t n=numT t n:=by
 unfold numR numT
 by_cases q:n∈t.caps
 ·have:=hc n q
  rw[if_pos q,if_neg (by omega)]
 ·rw[if_neg q,if_pos (by rcases h with h|h;exact absurd h q;omega)]
abbrev cwB(h:Nat)(l:List Todo):List Blk:=[.box [.msl 11 1 0 l.length,.d (.int .i64 h)],todA l]
abbrev cwB'(h:Nat)(l:List Todo):List Blk:=[.box [.msl 11 2 0 l.length,.d (.int .i64 h)],.dead,todA l]
theorem zma{x:Int}:∀(l:List Int) (i j:Nat) (h:j<l.length),x∉l.take j->l[j]=x->idxI x l i=i+j
 |y::l,i,0,h,h1,h2=>by
  rw[idxI,if_pos (by simpa using h2.symm)]
  simp
 |y::l,i,j+1,h,h1,h2=>by
  simp only[List.take_succ_cons,List.mem_cons,not_or]at h1
  rw[idxI,if_neg h1.1,zma l (i+1) j (by simpa using h) h1.2 (by simpa using h2)]
  omega
set_option maxRecDepth 20000 in
theorem zmb(t:Todo)(h:Nat)(l:List Todo)(hh:h<l.length)(ht:l[h]=t)(n:Int)(hd:0<=t.deep/\t.deep<=1000000000)(hn:0<=n/\n<=2000000000)(hl:t.caps.length<=1000000000):
  MCall Pg 34 [.c (.ptr 0 0),.c (.d (.int .i64 n))] (cwB h l) (.c (.d (.int .i64 (numR t n)))) (cwB h l):=by
 refine zjT ⟨by simp,by simp,by simp,by simp,by simp,by simp,by simp[live]⟩ fun ts hts ok hbk cx hN hp=>?_
 obtain⟨u,v,rfl⟩:=zpn hts
 obtain⟨R,hR⟩:∃R,numR t n=R:=⟨_,rfl⟩
 rw[hR]
 unfold numR at hR
 unfold zfj
 simp[hh,ht]
 refine⟨by decide,?_⟩
 refine W.loop zab hp (fun j:Nat=>j<=t.caps.length/\n∉t.caps.take j) (fun j=>[(6,.c (.d (.int .i64 j))),(5,.c (.ptr 4 0)),(1,.c (.d (.int .i64 n)))]) (fun _=>[.box [.msl 11 1 0 l.length,.d (.int .i64 h)],todA l,.pin u 0,.pin v 1,.box (t.enc.map .d)]) (fun j=>t.caps.length-j) 0 [0,1,2,3,4] (by simp) (by simp) fun j ⟨i1,i2⟩=>?_
 unfold lp_g13_Work_number_0
 simp
 refine gd.mk (fun h=>?_) (fun h=>?_)
 ·have hj:j<t.caps.length:=by simpa[encI]using h
  have hw:=wrap_i64 (n:=(j:Int)+1) (by omega) (by omega)
  obtain⟨d,hd⟩:∃d,t.caps[j]=d:=⟨_,rfl⟩
  by_cases e:d=n
  ·have hm:n∈t.caps:=by rw[<-e,<-hd];exact List.getElem_mem hj
   have hi:=zma t.caps 0 j hj i2 (by rw[hd];exact e)
   rw[if_pos hm,hi]at hR
   subst hR
   simp[hj,hd,e,encI]
   exact EndM.mk [0,1] [2,3] (by simp)
  ·have hm:n∉t.caps.take (j+1):=by
    rw[List.take_succ_eq_append_getElem hj,hd]
    simp only[List.mem_append,List.mem_singleton,not_or]
    exact⟨i2,fun z=>e z.symm⟩
   simp[hj,hd,e,encI]
   refine Abs.Next.mk (j+1) [0,1,2,3,4] ⟨by omega,hm⟩ (by omega) ?_
   simp[hw,encI]
 ·have hj:j=t.caps.length:=by simp[encI]at h;omega
  subst hj
  rw[List.take_length]at i2
  rw[if_neg i2]at hR
  have hw1:=wrap_i64 (n:=n-t.deep) (by omega) (by omega)
  have hw2:=wrap_i64 (n:=n-t.deep+t.caps.length) (by omega) (by omega)
  subst hR
  simp[hw1,hw2]
  exact EndM.mk [0,1] [2,3] (by simp)
abbrev inA(M:List Int):Blk:=.arr 1 ((encI M).map (·.map .d))
theorem zn8(l:List Int)(x:Int):za9 l [x]=ins1 l x:=rfl
def zmc(c:Cor):Prop:=∀(b:Int) (l:List Int),l.Pairwise (· < ·)->l.length+csz c<=1000000000->
 MCall Pg 35 [.ag (c.enc.map .d),.c (.d (.int .i64 b)),.c (.msl 1 0 0 l.length)] [.arr 1 ((encI l).map (·.map .d))] (.c (.msl 1 1 0 (za9 l (rawV c b)).length)) [.dead,.arr 1 ((encI (za9 l (rawV c b))).map (·.map .d))]
set_option maxRecDepth 20000 in
set_option maxHeartbeats 1000000 in
theorem zwK(c:Cor)(ih:∀x,x∈c.kids->zmc x):zmc c:=fun b l hl hs=>by
 refine zk9 ⟨by simp,by simp,by simp,by simp,by simp,by simp[live],by simp[live]⟩ fun ts hts ok hbk cx hN hp=>?_
 obtain⟨t0,rfl⟩:=zaR hts
 have hsz:=zbZ c
 have hkl:=zdi c.kids
 rw[zhI,zgL]
 obtain⟨R,hR⟩:∃R,za9 (za9 l (zbr c b)) (za3 c.kids b)=R:=⟨_,rfl⟩
 rw[hR]
 have key:∀(K:List Int),za9 K (za3 c.kids b)=R->K.Pairwise (· < ·)->K.length+cszs c.kids<=1000000000->∀(S:St) (l0:List Nat),Match l0 S [(9,.c (.d (.int .i64 (0:Nat)))),(3,.c (.d (.rp c.enc 0))),(2,.c (.msl 1 0 0 K.length)),(1,.c (.d (.int .i64 b)))] [inA K]->lw_ Pg cx zcV (zdR 2 (zdp (w_ Pg cx (.seq (.reg [⟨none,some 76,.mv (.t 2)⟩,⟨none,some 6,.mv (.t 76)⟩]) .ret) (endM [.tmp 6] (.c (.msl 1 1 0 R.length)) [.dead,inA R] [t0]) ⟨⟩) (endM [.tmp 6] (.c (.msl 1 1 0 R.length)) [.dead,inA R] [t0]))) ⟨⟩ S:=fun K hK hK2 hK3 S l0 h0=>by
  refine W.loop zab hp (fun Y:Nat × List Int=>Y.1<=c.kids.length/\za9 Y.2 (za3 (c.kids.drop Y.1) b)=R/\Y.2.Pairwise (· < ·)/\Y.2.length+cszs (c.kids.drop Y.1)<=1000000000) (fun Y=>[(9,.c (.d (.int .i64 Y.1))),(3,.c (.d (.rp c.enc 0))),(2,.c (.msl 1 0 0 Y.2.length)),(1,.c (.d (.int .i64 b)))]) (fun Y=>[inA Y.2]) (fun Y=>c.kids.length-Y.1) (0,K) l0 ⟨by simp,by simpa using hK,hK2,by simpa using hK3⟩ h0 fun⟨j,M⟩ ⟨i1,i2,i3,i4⟩=>?_
  unfold zcV
  simp only at i1 i2 i3 i4
  simp
  refine gd.mk (fun h=>?_) (fun h=>?_)
  ·have hj:j<c.kids.length:=by simpa using h
   rw[zfO hj,zgL]at i2
   have hd4:cszs (c.kids.drop j)=csz c.kids[j]+cszs (c.kids.drop (j+1)):=by rw[List.drop_eq_getElem_cons hj,cszs]
   have hc:=ih _ (List.getElem_mem hj) b M i3 (by omega)
   have hw:=wrap_i64 (n:=(j:Int)+1) (by omega) (by omega)
   have hrl:=zf9 c.kids[j] b
   obtain⟨d,hd⟩:∃d,c.kids[j]=d:=⟨_,rfl⟩
   rw[hd]at i2 hc hd4 hrl
   have hln:=zjk (rawV d b) M
   simp[hj,hd]
   refine zaa.mk [0] hc (by simp) ?_
   simp
   refine Abs.Next.mk (j+1,za9 M (rawV d b)) [1] ⟨by simp only;omega,i2,zeZ i3,by simp only;omega⟩ (by simp only;omega) ?_
   simp[hw]
  ·have hj:j=c.kids.length:=by simp at h;omega
   subst hj
   rw[List.drop_length,za3,zee]at i2
   subst i2
   simp
   exact EndM.mk [1,0] [1] (by simp)
 by_cases c4:c.kind=4
 rotate_left
 ·have e:zbr c b=[]:=by unfold zbr;rw[if_neg (fun z=>c4 z.1)]
  rw[e,zee]at hR
  unfold zcv
  simp[c4]
  refine owK.mk [] ?_
  simp only[zea]
  simp[c4]
  exact key _ hR hl (by omega) _ [0] (by simp)
 by_cases cb:c.n<b
 rotate_left
 ·have e:zbr c b=[]:=by unfold zbr;rw[if_neg (fun z=>cb z.2)]
  rw[e,zee]at hR
  unfold zcv
  simp[c4,cb]
  refine owK.mk [] ?_
  simp only[zea]
  simp[c4,cb]
  exact key _ hR hl (by omega) _ [0] (by simp)
 have e:zbr c b=[c.n]:=by unfold zbr;rw[if_pos ⟨c4,cb⟩]
 rw[e,zn8]at hR
 unfold zcv
 simp[c4,cb]
 refine owK.mk [] ?_
 simp only[zea]
 simp[c4,cb]
 have hR1:=zl9 (x:=c.n) hl
 have hR2:=zpK l c.n
 refine W.loop zab hp (fun k:Nat=>k<=l.length/\∀y,y∈l.take k->y<c.n) (fun k=>[(7,.c (.d (.int .i64 k))),(3,.c (.d (.rp c.enc 0))),(2,.c (.msl 1 0 0 l.length)),(1,.c (.d (.int .i64 b)))]) (fun _=>[inA l]) (fun k=>l.length-k) 0 [0] (by simp) (by simp) fun k ⟨i1,i2⟩=>?_
 unfold lp_g13_free_0
 by_cases hk:k<l.length
 rotate_left
 ·have hk:k=l.length:=by omega
  subst hk
  rw[List.take_length]at i2
  have hni:c.n∉l:=fun z=>by have:=i2 _ z;omega
  have hput:=znn (x:=c.n) l l.length (Nat.le_refl _) (by rw[List.take_length];exact i2) (fun h=>by omega)
  rw[List.take_length,List.drop_length]at hput
  have e1:ins1 l c.n=l++[c.n]:=by unfold ins1;rw[if_neg hni,hput]
  rw[e1]at hR hR1 hR2
  simp
  refine⟨by decide,by omega,by decide,by omega,?_⟩
  refine key _ hR hR1 (by omega) _ [3] ?_
  simp[encI]
  rw[List.take_of_length_le (by simp),List.take_of_length_le (by simp)]
 obtain⟨d,hd⟩:∃d,l[k]=d:=⟨_,rfl⟩
 by_cases hlt:d<c.n
 ·have hw:=wrap_i64 (n:=(k:Int)+1) (by omega) (by omega)
  have hm:∀y,y∈l.take (k+1)->y<c.n:=fun y hy=>by
   rw[List.take_succ_eq_append_getElem hk,hd]at hy
   rcases List.mem_append.1 hy with hy|hy
   ·exact i2 y hy
   ·rw[List.mem_singleton]at hy
    omega
  simp[encI,hk,hd,hlt]
  refine⟨by decide,?_⟩
  refine Abs.Next.mk (k+1) [0] ⟨by omega,hm⟩ (by omega) ?_
  simp[hw,encI]
 have hnk:¬k=l.length:=by omega
 by_cases heq:d=c.n
 ·have hmem:c.n∈l:=by rw[<-heq,<-hd];exact List.getElem_mem hk
  have e1:ins1 l c.n=l:=by unfold ins1;rw[if_pos hmem]
  rw[e1]at hR
  have hnk2:¬(k:Int)=(l.length:Int):=by omega
  simp[encI,hk,hd,heq,hnk2]
  refine⟨by decide,?_⟩
  refine key _ hR hl (by omega) _ [0] ?_
  simp[encI]
 have hni:c.n∉l:=fun z=>by
  obtain⟨q,hq,hqe⟩:=List.getElem_of_mem z
  rcases Nat.lt_trichotomy q k with h|h|h
  ·have:=i2 _ (List.mem_take_iff_getElem.2 ⟨q,by omega,hqe⟩)
   omega
  ·subst h;rw[hqe]at hd;exact heq hd.symm
  ·have:=List.pairwise_iff_getElem.1 hl k q hk hq h
   omega
 have hput:=znn (x:=c.n) l k (by omega) i2 (fun h=>by rw[hd];omega)
 have e1:ins1 l c.n=l.take k++c.n::l.drop k:=by unfold ins1;rw[if_neg hni,hput]
 rw[e1]at hR hR1 hR2
 have hnk2:¬(k:Int)=(l.length:Int):=by omega
 simp[encI,hk,hd,hlt,heq,hnk2]
 refine⟨by decide,by omega,by omega,by omega,by omega,by omega,by decide,by omega,by omega,?_⟩
 refine key _ hR hR1 (by omega) _ [3] ?_
 simp[encI]
 refine⟨by omega,?_,fun x hx=>?_,fun x hx=>?_⟩
 ·rw[List.take_take,Nat.min_self,List.take_of_length_le (i:=k+1) (by simp;omega),List.take_of_length_le (i:=l.length-k) (by simp)]
  simp
 ·obtain⟨y,_,e⟩:=List.mem_map.1 (List.mem_of_mem_take hx)
  subst e
  simp
 ·obtain⟨y,_,e⟩:=List.mem_map.1 (List.mem_of_mem_drop hx)
  subst e
  simp
mutual
theorem zsj:∀c:Cor,zmc c
 |.mk k n t is ns ts cs ks=>zwK _ (zpL ks)
theorem zpL:∀(l:List Cor) (x:Cor),x∈l->zmc x
 |[],x,hx=>by cases hx
 |c::l,x,hx=>by
  rcases List.mem_cons.1 hx with e|hx
  ·rw[e];exact zsj c
  ·exact zpL l x hx
end
theorem zwL(c:Cor)(b:Int)(hs:csz c<=1000000000):MCall Pg 35 [.ag (c.enc.map .d),.c (.d (.int .i64 b)),.c (.d (.sl true 1 []))] [] (.c (.msl 1 0 0 (za9 [] (rawV c b)).length)) [inA (za9 [] (rawV c b))]:=by
 refine zk9 ⟨by simp,by simp,by simp,by simp,by simp,by simp[live],by simp⟩ fun ts hts ok hbk cx hN hp=>?_
 obtain rfl:=noTs hts
 have hsz:=zbZ c
 have hkl:=zdi c.kids
 rw[zhI,zgL]
 obtain⟨R,hR⟩:∃R,za9 (za9 [] (zbr c b)) (za3 c.kids b)=R:=⟨_,rfl⟩
 rw[hR]
 have key:∀(K:List Int),za9 K (za3 c.kids b)=R->K.Pairwise (· < ·)->K.length+cszs c.kids<=1000000000->∀(S:St) (l0:List Nat),Match l0 S [(9,.c (.d (.int .i64 (0:Nat)))),(3,.c (.d (.rp c.enc 0))),(2,.c (.msl 1 0 0 K.length)),(1,.c (.d (.int .i64 b)))] [inA K]->lw_ Pg cx zcV (zdR 2 (zdp (w_ Pg cx (.seq (.reg [⟨none,some 76,.mv (.t 2)⟩,⟨none,some 6,.mv (.t 76)⟩]) .ret) (endM [.tmp 6] (.c (.msl 1 0 0 R.length)) [inA R] []) ⟨⟩) (endM [.tmp 6] (.c (.msl 1 0 0 R.length)) [inA R] []))) ⟨⟩ S:=fun K hK hK2 hK3 S l0 h0=>by
  refine W.loop zab hp (fun Y:Nat × List Int=>Y.1<=c.kids.length/\za9 Y.2 (za3 (c.kids.drop Y.1) b)=R/\Y.2.Pairwise (· < ·)/\Y.2.length+cszs (c.kids.drop Y.1)<=1000000000) (fun Y=>[(9,.c (.d (.int .i64 Y.1))),(3,.c (.d (.rp c.enc 0))),(2,.c (.msl 1 0 0 Y.2.length)),(1,.c (.d (.int .i64 b)))]) (fun Y=>[inA Y.2]) (fun Y=>c.kids.length-Y.1) (0,K) l0 ⟨by simp,by simpa using hK,hK2,by simpa using hK3⟩ h0 fun⟨j,M⟩ ⟨i1,i2,i3,i4⟩=>?_
  unfold zcV
  simp only at i1 i2 i3 i4
  simp
  refine gd.mk (fun h=>?_) (fun h=>?_)
  ·have hj:j<c.kids.length:=by simpa using h
   rw[zfO hj,zgL]at i2
   have hd4:cszs (c.kids.drop j)=csz c.kids[j]+cszs (c.kids.drop (j+1)):=by rw[List.drop_eq_getElem_cons hj,cszs]
   have hc:=zsj c.kids[j] b M i3 (by omega)
   have hw:=wrap_i64 (n:=(j:Int)+1) (by omega) (by omega)
   have hrl:=zf9 c.kids[j] b
   obtain⟨d,hd⟩:∃d,c.kids[j]=d:=⟨_,rfl⟩
   rw[hd]at i2 hc hd4 hrl
   have hln:=zjk (rawV d b) M
   simp[hj,hd]
   refine zaa.mk [0] hc (by simp) ?_
   simp
   refine Abs.Next.mk (j+1,za9 M (rawV d b)) [1] ⟨by simp only;omega,i2,zeZ i3,by simp only;omega⟩ (by simp only;omega) ?_
   simp[hw]
  ·have hj:j=c.kids.length:=by simp at h;omega
   subst hj
   rw[List.drop_length,za3,zee]at i2
   subst i2
   simp
   exact EndM.mk [0] [] (by simp)
 by_cases c4:c.kind=4
 rotate_left
 ·have e:zbr c b=[]:=by unfold zbr;rw[if_neg (fun z=>c4 z.1)]
  rw[e,zee]at hR
  unfold zcv
  simp[c4]
  refine owK.mk [.t 2] ?_
  simp only[zta,zea]
  simp[c4]
  exact key _ hR (by simp) (by simp;omega) _ [0] (by simp[encI])
 by_cases cb:c.n<b
 rotate_left
 ·have e:zbr c b=[]:=by unfold zbr;rw[if_neg (fun z=>cb z.2)]
  rw[e,zee]at hR
  unfold zcv
  simp[c4,cb]
  refine owK.mk [.t 2] ?_
  simp only[zta,zea]
  simp[c4,cb]
  exact key _ hR (by simp) (by simp;omega) _ [0] (by simp[encI])
 have e:zbr c b=[c.n]:=by unfold zbr;rw[if_pos ⟨c4,cb⟩]
 have e1:ins1 [] c.n=[c.n]:=rfl
 rw[e,zn8,e1]at hR
 unfold zcv
 simp[c4,cb]
 refine owK.mk [.t 2] ?_
 simp only[zta,zea]
 simp[c4,cb]
 refine W.loop zab hp (fun _:Nat=>True) (fun _=>[(7,.c (.d (.int .i64 0))),(3,.c (.d (.rp c.enc 0))),(2,.c (.msl 1 0 0 0)),(1,.c (.d (.int .i64 b)))]) (fun _=>[inA []]) (fun _=>0) 0 [0] (by simp) (by simp[encI]) fun k _=>?_
 unfold lp_g13_free_0
 simp[encI]
 refine⟨by decide,by decide,?_⟩
 exact key _ hR (by simp) (by simp;omega) _ [3] (by simp[encI])
end Go.Gr
namespace Go.Gr
open Go.Abs Go.Proofs
@[simp] theorem Cor.get2(c:Cor)(h:2<c.enc.length):c.enc[2]=.str c.text:=by simp only[c.enc_eq];rfl
@[simp] theorem Cor.get4(c:Cor)(h:4<c.enc.length):c.enc[4]=.sl false 1 (encS c.names):=by simp only[c.enc_eq];rfl
@[simp] theorem Cor.get5(c:Cor)(h:5<c.enc.length):c.enc[5]=.sl false 4 (c.types.map Typ.enc):=by simp only[c.enc_eq];rfl
@[simp] theorem Cor.get6(c:Cor)(h:6<c.enc.length):c.enc[6]=.sl false 5 (c.cos.map Coe.enc):=by simp only[c.enc_eq];rfl
def zmD(c:Coe):Prop:=PCall Pg 37 [.agg c.enc,.agg c.enc] (.one (.bool true))
set_option maxRecDepth 20000 in
set_option maxHeartbeats 1000000 in
theorem zvj(c:Coe)(ih:∀x,x∈c.fields++c.fn->zmD x):zmD c:=by
 refine zmY (by simp) fun o cx hN hp=>?_
 have hln:=o.1
 rw[c.enc_eq]at hln
 simp only[DV.ok,D.okL,D.ok,List.length_map]at hln
 unfold zah at hln
 have l1:c.tags.length<=4611686018427387904:=by have:=hln.1.1;simpa[encI]using this
 have l2:c.needs.length<=4611686018427387904:=by have:=hln.2.1.1;simpa[encN]using this
 have l3:c.names.length<=4611686018427387904:=by have:=hln.2.2.1.1;simpa[encS]using this
 have l4:c.fields.length<=4611686018427387904:=by have:=hln.2.2.2.1.1;simpa using this
 have l5:c.fn.length<=4611686018427387904:=by have:=hln.2.2.2.2.1.1;simpa using this
 clear hln
 unfold zha
 simp
 refine W.loop zab hp (fun j:Nat=>j<=c.tags.length) (fun j=>[(5,.c (.d (.int .i64 j))),(3,.c (.d (.rp c.enc 0))),(2,.c (.d (.rp c.enc 0)))]) (fun _=>[]) (fun j=>c.tags.length-j) 0 [] (by simp) (by simp) fun j i1=>?_
 unfold zfr
 simp
 refine gd.mk (fun h=>?_) (fun h=>?_)
 ·have hj:j<c.tags.length:=by simpa[encI,encS,encN]using h
  have hw:=wrap_i64 (n:=(j:Int)+1) (by omega) (by omega)
  simp[hj,encI,encS,encN]
  refine⟨by decide,?_⟩
  refine Abs.Next.mk (j+1) [] (by omega) (by omega) ?_
  simp[hw]
 try simp
 refine W.loop zab hp (fun j:Nat=>j<=c.needs.length) (fun j=>[(6,.c (.d (.int .i64 j))),(3,.c (.d (.rp c.enc 0))),(2,.c (.d (.rp c.enc 0)))]) (fun _=>[]) (fun j=>c.needs.length-j) 0 [] (by simp) (by simp) fun j i1=>?_
 unfold zft
 simp
 refine gd.mk (fun h=>?_) (fun h=>?_)
 ·have hj:j<c.needs.length:=by simpa[encI,encS,encN]using h
  have hw:=wrap_i64 (n:=(j:Int)+1) (by omega) (by omega)
  simp[hj,encI,encS,encN]
  refine⟨by decide,?_⟩
  refine Abs.Next.mk (j+1) [] (by omega) (by omega) ?_
  simp[hw]
 try simp
 refine W.loop zab hp (fun j:Nat=>j<=c.names.length) (fun j=>[(7,.c (.d (.int .i64 j))),(3,.c (.d (.rp c.enc 0))),(2,.c (.d (.rp c.enc 0)))]) (fun _=>[]) (fun j=>c.names.length-j) 0 [] (by simp) (by simp) fun j i1=>?_
 unfold zfv
 simp
 refine gd.mk (fun h=>?_) (fun h=>?_)
 ·have hj:j<c.names.length:=by simpa[encI,encS,encN]using h
  have hw:=wrap_i64 (n:=(j:Int)+1) (by omega) (by omega)
  simp[hj,encI,encS,encN]
  refine⟨by decide,?_⟩
  refine Abs.Next.mk (j+1) [] (by omega) (by omega) ?_
  simp[hw]
 try simp
 refine W.loop zab hp (fun j:Nat=>j<=c.fields.length) (fun j=>[(8,.c (.d (.int .i64 j))),(3,.c (.d (.rp c.enc 0))),(2,.c (.d (.rp c.enc 0)))]) (fun _=>[]) (fun j=>c.fields.length-j) 0 [] (by simp) (by simp) fun j i1=>?_
 unfold zfx
 simp
 refine gd.mk (fun h=>?_) (fun h=>?_)
 ·have hj:j<c.fields.length:=by simpa[encI,encS,encN]using h
  have hw:=wrap_i64 (n:=(j:Int)+1) (by omega) (by omega)
  have hc:=ih _ (List.mem_append_left _ (List.getElem_mem hj))
  obtain⟨d,hd⟩:∃d,c.fields[j]=d:=⟨_,rfl⟩
  rw[hd]at hc
  simp[hj,hd]
  refine zac.mk hc ?_
  simp
  refine⟨by decide,?_⟩
  refine Abs.Next.mk (j+1) [] (by omega) (by omega) ?_
  simp[hw]
 try simp
 refine W.loop zab hp (fun j:Nat=>j<=c.fn.length) (fun j=>[(10,.c (.d (.int .i64 j))),(3,.c (.d (.rp c.enc 0))),(2,.c (.d (.rp c.enc 0)))]) (fun _=>[]) (fun j=>c.fn.length-j) 0 [] (by simp) (by simp) fun j i1=>?_
 unfold zfz
 simp
 refine gd.mk (fun h=>?_) (fun h=>?_)
 ·have hj:j<c.fn.length:=by simpa[encI,encS,encN]using h
  have hw:=wrap_i64 (n:=(j:Int)+1) (by omega) (by omega)
  have hc:=ih _ (List.mem_append_right _ (List.getElem_mem hj))
  obtain⟨d,hd⟩:∃d,c.fn[j]=d:=⟨_,rfl⟩
  rw[hd]at hc
  simp[hj,hd]
  refine zac.mk hc ?_
  simp
  refine⟨by decide,?_⟩
  refine Abs.Next.mk (j+1) [] (by omega) (by omega) ?_
  simp[hw]
 try simp
mutual
theorem zqr:∀c:Coe,zmD c
 |.mk t n s f g=>zvj _ fun x hx=>(List.mem_append.1 hx).elim (zjH f x) (zjH g x)
theorem zjH:∀(l:List Coe) (x:Coe),x∈l->zmD x
 |[],x,hx=>by cases hx
 |c::l,x,hx=>by
  rcases List.mem_cons.1 hx with e|hx
  ·rw[e];exact zqr c
  ·exact zjH l x hx
end
set_option maxRecDepth 20000 in
theorem ztL(l:List ByteArray):PCall Pg 36 [.one (.sl false 1 (encS l)),.one (.sl false 1 (encS l))] (.one (.bool true)):=by
 refine zr1 (by simp) fun o cx hN hp=>?_
 have hln:=o.1
 simp only[DV.ok,D.ok]at hln
 unfold zah at hln
 have l1:l.length<=4611686018427387904:=by have:=hln.1;simpa[encS]using this
 clear hln
 unfold zjW
 simp
 refine W.loop zab hp (fun j:Nat=>j<=l.length) (fun j=>[(5,.c (.d (.int .i64 j))),(1,.c (.d (.sl false 1 (encS l)))),(0,.c (.d (.sl false 1 (encS l))))]) (fun _=>[]) (fun j=>l.length-j) 0 [] (by simp) (by simp) fun j i1=>?_
 unfold lp_w12_texts_0
 simp
 refine gd.mk (fun h=>?_) (fun h=>?_)
 ·have hj:j<l.length:=by simpa[encS]using h
  have hw:=wrap_i64 (n:=(j:Int)+1) (by omega) (by omega)
  simp[hj,encS]
  refine⟨by decide,?_⟩
  refine Abs.Next.mk (j+1) [] (by omega) (by omega) ?_
  simp[hw,encS]
 try simp
def zmE(c:Cor):Prop:=PCall Pg 21 [.agg c.enc,.agg c.enc] (.one (.bool true))
set_option maxRecDepth 20000 in
set_option maxHeartbeats 1000000 in
theorem zvk(c:Cor)(ih:∀x,x∈c.kids->zmE x):zmE c:=by
 refine zr0 (by simp) fun o cx hN hp=>?_
 have hln:=o.1
 rw[c.enc_eq]at hln
 simp only[DV.ok,D.okL,D.ok,List.length_map]at hln
 unfold zah at hln
 have l1:c.ints.length<=4611686018427387904:=by have:=hln.2.2.2.1.1;simpa[encI]using this
 have l2:c.cos.length<=4611686018427387904:=by have:=hln.2.2.2.2.2.2.1.1;simpa using this
 have l3:c.kids.length<=4611686018427387904:=by have:=hln.2.2.2.2.2.2.2.1.1;simpa using this
 clear hln
 unfold zjV
 simp
 refine zac.mk (ztL c.names) ?_
 simp
 refine W.loop zab hp (fun j:Nat=>j<=c.ints.length) (fun j=>[(6,.c (.d (.int .i64 j))),(3,.c (.d (.rp c.enc 0))),(2,.c (.d (.rp c.enc 0)))]) (fun _=>[]) (fun j=>c.ints.length-j) 0 [] (by simp) (by simp) fun j i1=>?_
 unfold lp_w12_Cores_0
 simp
 refine gd.mk (fun h=>?_) (fun h=>?_)
 ·have hj:j<c.ints.length:=by simpa[encI,encS,encN]using h
  have hw:=wrap_i64 (n:=(j:Int)+1) (by omega) (by omega)
  simp[hj,encI,encS,encN]
  refine⟨by decide,?_⟩
  refine Abs.Next.mk (j+1) [] (by omega) (by omega) ?_
  simp[hw]
 try simp
 refine W.loop zab hp (fun j:Nat=>j<=c.cos.length) (fun j=>[(7,.c (.d (.int .i64 j))),(3,.c (.d (.rp c.enc 0))),(2,.c (.d (.rp c.enc 0)))]) (fun _=>[]) (fun j=>c.cos.length-j) 0 [] (by simp) (by simp) fun j i1=>?_
 unfold zhQ
 simp
 refine gd.mk (fun h=>?_) (fun h=>?_)
 ·have hj:j<c.cos.length:=by simpa[encI,encS,encN]using h
  have hw:=wrap_i64 (n:=(j:Int)+1) (by omega) (by omega)
  have hc:=zqr c.cos[j]
  obtain⟨d,hd⟩:∃d,c.cos[j]=d:=⟨_,rfl⟩
  rw[hd]at hc
  simp[hj,hd]
  refine zac.mk hc ?_
  simp
  refine⟨by decide,?_⟩
  refine Abs.Next.mk (j+1) [] (by omega) (by omega) ?_
  simp[hw]
 try simp
 refine W.loop zab hp (fun j:Nat=>j<=c.kids.length) (fun j=>[(9,.c (.d (.int .i64 j))),(3,.c (.d (.rp c.enc 0))),(2,.c (.d (.rp c.enc 0)))]) (fun _=>[]) (fun j=>c.kids.length-j) 0 [] (by simp) (by simp) fun j i1=>?_
 unfold zhR
 simp
 refine gd.mk (fun h=>?_) (fun h=>?_)
 ·have hj:j<c.kids.length:=by simpa[encI,encS,encN]using h
  have hw:=wrap_i64 (n:=(j:Int)+1) (by omega) (by omega)
  have hc:=ih _ (List.getElem_mem hj)
  obtain⟨d,hd⟩:∃d,c.kids[j]=d:=⟨_,rfl⟩
  rw[hd]at hc
  simp[hj,hd]
  refine zac.mk hc ?_
  simp
  refine⟨by decide,?_⟩
  refine Abs.Next.mk (j+1) [] (by omega) (by omega) ?_
  simp[hw]
 try simp
mutual
theorem zmF:∀c:Cor,zmE c
 |.mk k n t is ns ts cs ks=>zvk _ (zk7 ks)
theorem zk7:∀(l:List Cor) (x:Cor),x∈l->zmE x
 |[],x,hx=>by cases hx
 |c::l,x,hx=>by
  rcases List.mem_cons.1 hx with e|hx
  ·rw[e];exact zmF c
  ·exact zk7 l x hx
end
@[simp] theorem Flt.cut_bodyD(f:Flt):cut f.enc 2 8=f.body.enc:=by unfold Flt.enc;rw[f.body.enc_eq];try rfl
@[simp] theorem Flt.g0(f:Flt)(h:0<f.enc.length):f.enc[0]=.str f.name:=rfl
@[simp] theorem Flt.g1(f:Flt)(h:1<f.enc.length):f.enc[1]=.int .i64 f.caps:=rfl
set_option maxRecDepth 20000 in
theorem zdq(l:List Flt):PCall Pg 10 [fltV l,fltV l] (.one (.bool true)):=by
 refine zrZ (by simp) fun o cx hN hp=>?_
 have hln:=o.1
 simp only[DV.ok,D.ok]at hln
 unfold zah at hln
 have l1:l.length<=4611686018427387904:=by have:=hln.1;simpa using this
 clear hln
 unfold zjU
 simp
 refine W.loop zab hp (fun j:Nat=>j<=l.length) (fun j=>[(5,.c (.d (.int .i64 j))),(1,.c (.d (.sl false 10 (l.map Flt.enc)))),(0,.c (.d (.sl false 10 (l.map Flt.enc))))]) (fun _=>[]) (fun j=>l.length-j) 0 [] (by simp) (by simp) fun j i1=>?_
 unfold lp_w13_Flats_0
 simp
 refine gd.mk (fun h=>?_) (fun h=>?_)
 ·have hj:j<l.length:=by simpa using h
  have hw:=wrap_i64 (n:=(j:Int)+1) (by omega) (by omega)
  obtain⟨d,hd⟩:∃d,l[j]=d:=⟨_,rfl⟩
  simp[hj,hd]
  refine zac.mk (zmF d.body) ?_
  simp[hj,hd]
  refine⟨by decide,by decide,?_⟩
  refine Abs.Next.mk (j+1) [] (by omega) (by omega) ?_
  simp[hw]
 try simp
end Go.Gr
