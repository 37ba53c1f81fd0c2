/- Of ours. -/
import Derived.Test.YtlfjlokfciejnaaGreatJ20
import Derived.Maps.AppendAt
import Derived.Test.YtlfjlokfciejnaaGreatLayC
import Derived.Sort.OwnSorted
set_option maxRecDepth 20000
set_option maxHeartbeats 4000000
set_option linter.unusedVariables false
set_option linter.unusedSectionVars false
set_option linter.unusedSimpArgs false
set_option linter.defProp false
set_option linter.unnecessarySimpa false
open List renaming length->lN
open Bool renaming true->tT,false->oK
open Option renaming some->sS,none->nN
namespace Go.Gr
open Go.RowKit Go.Shelf Go.Proofs Go.Sort Go.Maps
attribute [local go_sem] Oper.semAt_some
theorem zLm:(Tryz.prog.info? 9).map (λi=>(i.zero,i.size,i.bytes))=sS (sS (.string ⟨#[]⟩),1,16):=by kernel_rfl
set_option maxRecDepth 100000 in
def zCe(F:Fence)(n:Nat)(h9:F.fn 189)(h7:F.fn 166)(hro:F.round=nN)(hn:3<=n)(Bs o:Nat)(sv:Value)(zs:sD)(hlen:lN zs<=maxLen)(_Y:lN zs*16<=140737488351232)(w:World)(hBs:Bs<w.heap.size)(hc0:w.cell? ⟨Bs,o,nN⟩=sS sv)(hI:FQ w.heap.size w sv zs):
  CallsIn F n Tryz.prog 189 #[.slice nN 0 0,.func (.func 166) #[] #[.pointer (sS ⟨Bs,o,nN⟩)]] w λe W'=>∃v,e=.returned v/\W'.ownsRow w.heap.size 9 1 v (lN zs) (zs.map encStr)/\(v=.slice nN 0 0↔zs=[])/\Below w.heap.size w W':=by
 have h1:1<=n:=oM;let⟨i0,hi,hz0,hz1,hz2⟩:=info_parts zLm;refine callsIn_of_wp_marks Tryz.func189 rfl h9 ?_ hro;simp only[Tryz.ntmps189,List.size_toArray,List.length_cons,List.length_nil,Nat.reduceAdd,Nat.reduceSub,Array.replicate_succ,Array.replicate_zero,List.push_toArray,List.append_toArray,List.nil_append,List.cons_append]
 gi_wp2
 have bO:=Boxed.new w 34 (.slice nN 0 0);have hB0:Below w.heap.size w (w.alloc (.cells #[.slice nN 0 0] 34)):=(Below.refl _ w).alloc (aJ _) _;have hcb:(w.alloc (.cells #[.slice nN 0 0] 34)).cell? ⟨Bs,o,nN⟩=sS sv:=(hB0.cell (p:=⟨Bs,o,nN⟩) hBs).trans hc0
 refine wpIn_rangeFunc_ownG hro h1 (gf:=166) (lb:=#[.pointer (sS ⟨Bs,o,nN⟩)]) rfl h7 (enters_of Tryz.func166 (by kernel_rfl) rfl)
  (zvR F (n-1) h7 hro oM Bs o w.heap.size sv zs _Y _ (by simp;omega) oC hcb (hI.below hB0)) belowK_t (belowK_b oC) (Below.refl _ _) (λ_=>rfl)
  (λpre W=>(∃v,Boxed W w.heap.size 34 v/\W.ownsRow w.heap.size 9 1 v (lN pre) (pre.map encStr)/\(v=.slice nN 0 0↔pre=[]))/\Below w.heap.size w W)
  (λ_ _ _=>False)
  (OwnFrom.and (Own.from (holdsRow_own w.heap.size w.heap.size 34 9 1 (λpre=>lN pre) (λpre=>pre.map encStr) (λpre v=>v=.slice nN 0 0↔pre=[])) _) (ownFrom_below (aJ _) oC))
  (λ_ _ _ _ _ hs _ _=>hs)
  ⟨⟨_,bO,World.ownsRow_nil _ _ _ _,oC⟩,hB0⟩
  (λx=>{tmps:=#[.slice nN 0 0,.func (.func 166) #[] #[.pointer (sS ⟨Bs,o,nN⟩)],.pointer (sS ⟨w.heap.size,0,nN⟩),undef,.slice nN 0 0,encStr x,.func (.func 166) #[] #[.pointer (sS ⟨Bs,o,nN⟩)],encStr x,undef,undef,undef,undef,undef],defers:=[]}) ?assign ?body ?done ?stop
 case assign=>
  intro l x W K hK
  gi_wp2
  exact hK
 case body=>
  rintro l pre x W ⟨⟨v,hv,hrow,hnil⟩,hB⟩ _k
  have hc:=hv.cell
  gi_wp2_with (gi_at_builtin;refine wpListIn_append_own _ rfl _ _ 34 rfl w.heap.size 9 i0 (.string ⟨#[]⟩) 1 16 Tryz.underlying34 hi hz0 hz1 hz2 rfl oD _ _ _ rfl (hrow.alloc _) ⟨W.heap.size,0,nN⟩ 1 1 [encStr x] rfl rfl (cell_one_new _ _ _) (by simp[Value.oneCell',encStr]) oM oM (by have:=hB.size;simp;omega) ?_;intro v' w1 hown' hgrow _;obtain⟨g',cap',rfl⟩:=ownsRow_succ hown';let⟨hv1,hv2,hr2,hk2,hb2⟩:=hv.appended oD hrow hB.size (aJ _) hown' hgrow;have hc1:=hv1.cell;have hf1:=hv1.frozen)
  exact⟨hk2.from _,hb2,⟨_,hv2,uM hr2,oC⟩,hB.trans hb2⟩
 case done=>
  rintro D ys W hD rfl ⟨⟨v,hv,hrow,hnil⟩,hB⟩ hK
  have hc:=hv.cell
  gi_wp2
  refine⟨oC,.inl ⟨_,_,rfl,run_takeDeferred hK,?_⟩⟩;exact⟨_,results_tmp rfl _ _ _,v,rfl,ownsRow_putObj hrow _ hK rfl,hnil,hB.trans (belowK_b (w:=w) (aJ _) W D _ _ (by simp at hD;omega) hK rfl rfl)⟩
 case stop=>
  rintro D c pre W _ _ h _
  exact h.elim
attribute [local go_sem] Oper.semAt_some
set_option maxRecDepth 100000 in
def zzc(F:Fence)(n:Nat)(h4:F.fn 164)(h9:F.fn 189)(h7:F.fn 166)(hro:F.round=nN)(hn:4<=n)(Bs o:Nat)(sv:Value)(zs:sD)(hlen:lN zs<=maxLen)(_Y:lN zs*16<=140737488351232)(w:World)(hBs:Bs<w.heap.size)(hc0:w.cell? ⟨Bs,o,nN⟩=sS sv)(hI:FQ w.heap.size w sv zs):
  CallsIn F n Tryz.prog 164 #[.func (.func 166) #[] #[.pointer (sS ⟨Bs,o,nN⟩)]] w λe W'=>∃v,e=.returned v/\W'.ownsRow w.heap.size 9 1 v (lN zs) (zs.map encStr)/\(v=.slice nN 0 0↔zs=[])/\Below w.heap.size w W':=by
 have h1:1<=n:=oM;refine callsIn_of_wp Tryz.func164 rfl h4 ?_ hro;simp only[Tryz.ntmps164,List.size_toArray,List.length_cons,List.length_nil,Nat.reduceAdd,Nat.reduceSub,Array.replicate_succ,Array.replicate_zero,List.push_toArray,List.append_toArray,List.nil_append,List.cons_append]
 gi_wp2_with (gi_at_call 189;refine(zCe F (n-1) h9 h7 hro oM Bs o sv zs hlen _Y _ hBs hc0 hI).mono ?_;rintro e w' ⟨v,rfl,hrow,hnil,hb⟩)
 go_ret
 exact⟨v,rfl,hrow,hnil,hb⟩
set_option maxRecDepth 100000 in
def zBA(F:Fence)(n:Nat)(h0:F.fn 119)(h5:F.fn 165)(h4:F.fn 164)(h9:F.fn 189)(h7:F.fn 166)(hro:F.round=nN)(hn:5<=n)(hsort:(∀(blk off cap:Nat) (ss:sD) (W:World),Holds encStr W blk off ss.toArray->blk<W.heap.size->lN ss<4611686018427387904->
  CallsIn F (n-1) Tryz.prog 165 #[.slice (sS ⟨blk,off,nN⟩) (lN ss) cap] W λe w'=>e=.returned (.tuple #[])/\∃k os,w'=grow (putRow encStr (Sort.ahead W k) blk off (ss.mergeSort λx y=>decide (x<=y)).toArray) os)/\
  (∀(p:Option Addr) (cap:Nat) (W:World),CallsIn F (n-1) Tryz.prog 165 #[.slice p 0 cap] W λe w'=>e=.returned (.tuple #[])/\w'=W))
  (Bs o:Nat) (sv:Value) (zs:sD) (hlen:lN zs<=maxLen) (_Y:lN zs*16<=140737488351232) (w:World) (hBs:Bs<w.heap.size) (hc0:w.cell? ⟨Bs,o,nN⟩=sS sv) (hI:FQ w.heap.size w sv zs):
  CallsIn F n Tryz.prog 119 #[.func (.func 166) #[] #[.pointer (sS ⟨Bs,o,nN⟩)]] w λe W'=>∃v,e=.returned v/\W'.ownsRow w.heap.size 9 1 v (lN zs) ((zs.mergeSort (λx y=>decide (x<=y))).map encStr)/\Below w.heap.size w W':=by
 have h1:1<=n:=oM;refine callsIn_of_wp Tryz.func119 rfl h0 ?_ hro;simp only[Tryz.ntmps119,List.size_toArray,List.length_cons,List.length_nil,Nat.reduceAdd,Nat.reduceSub,Array.replicate_succ,Array.replicate_zero,List.push_toArray,List.append_toArray,List.nil_append,List.cons_append]
 gi_wp2_with (gi_at_call 164;refine(zzc F (n-1) h4 h9 h7 hro oM Bs o sv zs hlen _Y _ hBs hc0 hI).mono ?_;rintro e W ⟨v,rfl,hrow,hnil,hb⟩)
 rcases hrow.2 with⟨rfl,hz⟩|⟨gb,cap,cur,rfl,hbase,hgb,r1,r2,r3,r4⟩
 .have hss:zs=[]:=List.eq_nil_of_length_eq_zero hz;subst hss
  gi_wp2_with (gi_at_call 165;refine(hsort.2 nN 0 W).mono ?_;rintro e w' ⟨rfl,rfl⟩)
  go_ret
  exact⟨.slice nN 0 0,rfl,uM hrow,hb⟩
 .have hH:Holds encStr W gb 0 zs.toArray:=holds_of_block hgb (uM r4);have hgl:gb<W.heap.size:=(Array.getElem?_eq_some_iff.1 hgb).1;have hsz:lN zs<4611686018427387904:=oM;have cS:=hsort.1 gb 0 cap zs W hH hgl hsz
  gi_wp2_with (gi_at_call 165;apply cS.mono;rintro e w' ⟨rfl,nn,os,rfl⟩)
  go_ret
  exact⟨_,rfl,ownsRow_sorted oC hbase hgb r1 r2 r3,hb.grown (grownBy_sorted _) hb.size (λj hj=>by cases hj;exact hbase)⟩
end Go.Gr
