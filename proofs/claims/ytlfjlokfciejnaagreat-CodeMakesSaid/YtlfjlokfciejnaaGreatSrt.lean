/- Of ours. -/
import Derived.Test.YtlfjlokfciejnaaGreatJ05
import Derived.Sort.KeysCollected
import Derived.Lib.SlKeysI
set_option linter.unusedVariables false
set_option linter.unusedSimpArgs false
namespace Go.Abs
open List
open Go.Proofs (encStr)
open Go.RowKit (Below)
open Go.ChangeMaps Go.MapKept
open Go.WideElems (Fit rd rg rd_mk)
open Go.WideShapes (sorted_perm)
def zaT(l:List ByteArray):List ByteArray:=((l.map fun s=>s.data.toList).mergeSort fun x y=>decide (x<=y)).map fun x=>⟨x.toArray⟩
theorem RepL.toE{h:PH}:∀{ds:List D} {vs:List Value},RepL h ds vs->RepE h 1 (ds.map fun d=>[d]) vs
 |[],vs,_=>by simp[RepE]
 |d::ds,[],r=>by simp[RepL]at r
 |d::ds,v::vs,r=>by
  simp only[RepL]at r
  simp only[map_cons,RepE,RepL,drop_succ_cons,drop_zero]
  exact⟨rfl,⟨r.1,trivial⟩,RepL.toE r.2⟩
theorem zIn{w w':World}{e:TypeId}{v:Value}{xs:List Value}{n:Nat}(hrow:w'.ownsRow w.heap.size e 1 v n xs){ds:List D}(hn:ds.length=n)(hl:n<=zaf)(hr:∀h,RepL h ds xs){h:PH}(hp:∀B o,h B=some o->B<w.heap.size/\w'.heap[B]?=some o):
  ∃h':PH,h.le h'/\(∀B,B<w.heap.size->h' B=h B)/\(∀B o,h' B=some o->w'.heap[B]?=some o)/\RepD h' (.sl false 1 (ds.map fun d=>[d])) v:=by
 obtain⟨e1,e2⟩:=hrow
 rcases e2 with⟨rfl,rfl⟩|⟨g,cap,cur,rfl,hg,hh,c1,c2,c3,c4⟩
 ·have:ds=[]:=List.length_eq_zero_iff.1 hn
  subst this
  refine⟨h,PH.le_refl h,fun _ _=>rfl,fun B o e=>(hp B o e).2,?_⟩
  simp only[RepD,map_nil]
  exact⟨none,0,rfl,Nat.le_refl _,(fun h=>by cases h),Nat.zero_le _,(fun _=>⟨trivial,rfl⟩),(fun _ e=>by cases e),by simp[RepE]⟩
 ·have h0:h g=none:=by
   cases hq:h g with
   |none=>rfl
   |some o=>have:=(hp g o hq).1;omega
  have hle:h.le (upd h g (some (.cells cur e (0,0)))):=fun B o e=>by
   rw[zao _ _ (fun q=>by rw[q,h0]at e;cases e)];exact e
  refine⟨upd h g (some (.cells cur e (0,0))),hle,fun B hB=>zao _ _ (by omega),fun B o e=>?_,?_⟩
  ·by_cases q:B=g
   ·subst q;rw[zam]at e;cases e;exact hh
   ·rw[zao _ _ q]at e;exact(hp B o e).2
  ·simp only[RepD,length_map]
   refine⟨some ⟨g,0,none⟩,cap,by rw[hn],by omega,(fun h=>by cases h),by omega,(fun h=>by cases h),(fun q e _=>by cases e;rfl),?_⟩
   have:cellsAt (upd h g (some (.cells cur e (0,0)))) (some ⟨g,0,none⟩)=cur.toList:=by
    simp[cellsAt,hcells,zam]
   rw[this]
   have r1:=(hr (upd h g (some (.cells cur e (0,0))))).toE
   rw[<-c4]at r1
   have:=RepE.mono (PH.le_refl _) _ _ (cur.toList.drop (n*1)) r1
   rwa[take_append_drop]at this
theorem zwh{h:PH}:∀{l:List (List UInt8)},(∀x,x∈l->x.length<=zaf)->RepL h ((l.map fun x=>(⟨x.toArray⟩:ByteArray)).map .str) (l.map encStr)
 |[],_=>by simp[RepL]
 |x::l,hx=>by
  simp only[map_cons,RepL,RepD]
  exact⟨⟨by first|rfl|trivial,by first|rfl|trivial,by simpa[ByteArray.size]using hx x (by simp)⟩,zwh fun y hy=>hx y (by simp[hy])⟩
end Go.Abs
