/- Texts of ours, joined and written short by a program of ours. -/
import Derived.Test.YtnbgmeamdkggeaaGreatDoorJ15
import Derived.Test.YtnbgmeamdkggeaaGreatDoorSrt
import Derived.Test.YtnbgmeamdkggeaaGreatDoorLayR
set_option maxRecDepth 20000
set_option maxHeartbeats 4000000
set_option linter.unusedVariables false
set_option linter.unusedSectionVars false
set_option linter.unusedSimpArgs false
set_option linter.defProp false
set_option linter.unnecessarySimpa false
namespace Go.Gr
open Go.Abs Go.Proofs Go.RowKit Go.Maps Go.Sort Go.Shelf List
def zFW(m:Nat):AnyZ.SortsIn Tryz.prog Tryz.sorted23_ren Fence.wide m:=
⟨λblk off cap ss W hH hblk hsz=>callsIn_wide.2 (AnyM.slices_Sort_string Tryz.sort51 blk off cap ss W hH hblk hsz),
 λp cap W=>callsIn_wide.2 (AnyM.slices_Sort_string_none Tryz.sort51 p cap W)⟩
def zwj{H:Type}(Bm b nn:Nat)(D0:DataW H)(R:Value->Option (DataW H × List MemPlace))(w:World)(hB:Bm<w.heap.size)(hm:w.cell? ⟨Bm,0,none⟩=some (.map (some b)))(hown:w.ownsMap Tryz.prog 9 R b nn D0)(hmax:Maps.size D0<=maxLen)(hbytes:Maps.size D0*16<=140737488355328):
  Calls Tryz.prog 23 #[.func (.func 52) #[] #[.pointer (some ⟨Bm,0,none⟩)]] w λe w'=>∃(v:Value) (ss:List (List UInt8)),e=.returned v/\ss.Perm (strKeys D0)/\
   w'.ownsRow w.heap.size 9 1 v ss.length ((ss.mergeSort (λx y=>decide (x<=y))).map encStr)/\(v=.slice none 0 0↔ss=[])/\Below w.heap.size w w':=by
 refine(callsIn_wide (n:=5)).1 ?_
 have hseq:SeqGives Fence.wide 2 Tryz.prog 52 #[.pointer (some ⟨Bm,0,none⟩)] encStr (λss=>ss.Perm (strKeys D0)) (Maps.size D0) w:=
  AnyZ.keys_gives (ρ:=Tryz.keys24_ren) {Tryz.keys24 with} Fence.wide _ trivial rfl (by omega) Bm b nn D0 _ hB hm hown
 exact AnyZ.sorted_in Tryz.sorted23 Fence.wide 5 trivial trivial trivial trivial rfl (by omega) (zFW _) (enters_of Tryz.func51 (by kernel_rfl) rfl) 52 #[.pointer (some ⟨Bm,0,none⟩)] trivial (enters_of Tryz.func52 (by kernel_rfl) rfl) _ _ hmax hbytes _ hseq
def zy2(t:Nat × Nat):∀{ns:List di} {vs:List Val},ns.length=vs.length->(pU (ns.map .str) (mF t vs)).map (·.1)=ns.map .str
|[],[],_=>rfl
|n::ns,v::vs,h=>by
 have:=zy2 t (ns:=ns) (vs:=vs) (by simpa using h);simp only[map_cons,mF,pU,this]
def zwv(t:Nat × Nat)(ns:List di)(vs:List Val):MCall Pg 24 [.c (.d (.mp (ns.map .str) (mF t vs)))] [] (.c (.fn (.func 52) [.ptr 0 0])) [.box [.d (.mp (ns.map .str) (mF t vs))]]:=by
 refine zkn ⟨by simp,by simp,by simp,by simp,by simp,by simp[live],by simp[live]⟩ λts hts ok hb c hN hp=>?_;obtain rfl:=jY hts;unfold zjx;simp;exact eH [0] []
def PZ{h:PH}{ρ:RM}{ks us:List D}{w:World}{argsC:List Value}(K:HRel h ρ (hpOf [.box [.d (.mp ks us)]]) w.heap)(r:zad h ρ [.c (.fn (.func 52) [.ptr 0 0])] argsC):
  ∃(b B:Nat),argsC=[.func (.func 52) #[] #[.pointer (some ⟨B,0,none⟩)]]/\B<w.heap.size/\w.cell? ⟨B,0,none⟩=some (.map (some b))/\zaj h ρ (b,0) (.map (pU ks us)) w.heap:=by
 match argsC,r with
 | [v],r=>
  simp only[zad,RepV,RepC,and_true]at r;obtain⟨vs,e1,e2,e3⟩:=r
  match vs,e2,e3 with
  | [u],_,e3=>
   simp only[gK,RepC,and_true]at e3;obtain⟨_,p1,q1,q2⟩:=e3;have hb:=K.own 0 p1 q1;simp[hpOf,zaj]at hb;obtain⟨us',⟨T,b1⟩,b2,b3⟩:=hb
   match us',b2,b3 with
   | [x],_,b3=>
    simp only[gK,RepC,and_true]at b3;obtain⟨_,b3⟩:=b3;simp only[Abs.RepD]at b3;obtain⟨b,ms,ck,c1,c2,c3,c4,⟨c5,c6⟩,c7,c8⟩:=b3;refine⟨b,p1.1,by rw[e1,q2],?_,?_,ms,ck,K.pers b _ c2,KR c3 c4 c5 c6,c7,c8⟩
    ·rcases aX p1.1 w.heap.size with g|g
     ·exact g
     ·rw[af g]at b1;cases b1
    ·simp[World.cell?,b1,c1]
def ztJ(t:Nat × Nat)(ns:List di)(vs:List Val)(hn:ns.Nodup)(hlv:ns.length=vs.length)(hl:ns.length<=1000000000):
  MCall Pg 23 [.c (.fn (.func 52) [.ptr 0 0])] [.box [.d (.mp (ns.map .str) (mF t vs))]] (.c (.d (.sl false 1 (encS (zi0 ns))))) [.box [.d (.mp (ns.map .str) (mF t vs))]]:=by
 have hlen:(zi0 ns).length=ns.length:=by simp[zi0]
 have hm:(140737488355328:Nat)<=maxLen:=by decide
 have e:encS (zi0 ns)=((zi0 ns).map D.str).map λd=>[d]:=by simp[encS]
 rw[e];refine MCall.row (by decide+kernel) (yV (by simp)) (by simp[live]) (by simp[hlen,zao];omega) λh ρ w argsC K r=>?_;obtain⟨b,B,rfl,hB,hc,hmap⟩:=PZ K r;have hfst:=zy2 t hlv;obtain⟨D0,o1,o2,o3⟩:=zGX (P:=Tryz.prog) (k:=9) Tryz.underlying9 hfst hn (by omega) hmap;refine(zwj B b _ D0 zmc w hB hc o1 (by omega) (by omega)).mono λe w' q=>?_;obtain⟨v,ss,q1,q2,q3,_,q5⟩:=q;have q6:ss.Perm (ns.map λs=>s.data.toList):=q2.trans o3;have q7:ss.mergeSort (λx y=>decide (x<=y))=(ns.map λs=>s.data.toList).mergeSort λx y=>decide (x<=y):=mergeSort_of_perm q6;obtain⟨ms,ck,_,g2,_⟩:=hmap;obtain⟨_,hsz⟩:=zqN (P:=Tryz.prog) (k:=9) hfst g2;have hss:ss.length=ns.length:=by simpa using q6.length_eq
 refine⟨v,_,9,q1,λh=>zwu λx hx=>?_,by simpa[hss,hlen,q7]using q3,q5⟩;have hx':=(mergeSort_perm _ _).mem_iff.1 hx;obtain⟨s,hs,rfl⟩:=bI.1 hx';rw[df];exact hsz s hs
def P6(l:List di)(h:l.Nodup):(zi0 l).Nodup/\(zi0 l).length=l.length/\∀x,x∈zi0 l↔x∈l:=by
 have hp:(zi0 l).Perm l:=by
  unfold zi0;have h1:=(mergeSort_perm (l.map λs=>s.data.toList) λx y=>decide (x<=y)).map λx=>(⟨x.toArray⟩:di)
  refine h1.trans ?_;rw[dK];have:((λx:List UInt8=>(⟨x.toArray⟩:di))∘λs:di=>s.data.toList)=id:=by
   funext s;rfl
  rw[this,map_id]
 exact⟨hp.nodup_iff.2 h,hp.length_eq,λx=>hp.mem_iff⟩
end Go.Gr
