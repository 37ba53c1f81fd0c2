/- A call that only reads, handed blocks of the caller's own. -/
import Derived.Test.YtkgomampbengjaaGreatDoorAbs23
set_option linter.unusedVariables false
namespace Go.Abs


theorem MCall.frz {P : Program} {f : FuncId} {args : List AV} {bs : List Blk} {ds : List DV} {d : D} (hp : PCall P f ds (.one d)) (hd : ∀ (h h' : PH) (v : Value), RepD h d v → RepD h' d v) (e : frzVs (hpOf bs) args = some ds)
    (h1 : ∀ i, i < bs.length → hpOf bs i ≠ .non) (h2 : (bs.all fun b => b.lv (live bs)) = true) : MCall P f args bs (.c (.d d)) bs := by
  refine ⟨hp.1, Nat.le_refl _, h1, rfl, fun b hb => List.all_eq_true.1 h2 b hb, fun h ρ w argsC H hG r => ?_⟩
  have k := frzVs_ok (n := 0) H (fun _ _ _ _ => Nat.zero_le _) args ds argsC e r
  refine (hp.2 (keepAll h 0 w.heap) w argsC (keepAll_pers H) (hG.mono (keepAll_le H)) k).mono fun e w' hh => ?_
  obtain ⟨vC, h', e1, e2, e3, e4, e5, e6, e7, e8⟩ := hh
  have hx : ∀ B, B < w.heap.size → w'.heap[B]? = w.heap[B]? := e6
  have hP : ∀ B o, h B = some o → w'.heap[B]? = some o := fun B o he => by
    rw [e6 B (H.lt he)]; exact H.pers B o he
  refine ⟨vC, h, ρ, e1, ⟨fun _ _ he => he, fun B hB _ => rfl, e5, fun B hB _ => e6 B hB, fun b p hp hr => .inr ⟨b, p, hp, hr, rfl⟩⟩, H.grow (fun _ _ he => he) hP (fun B hB _ => ⟨e6 B hB, rfl⟩), e7, ?_, fun _ _ => rfl⟩
  simp only [RepDV] at e8
  simp only [RepV, RepC]
  exact hd _ _ _ e8

theorem MCall.frzB {P : Program} {f : FuncId} {args : List AV} {bs : List Blk} {ds : List DV} {t : Bool} (hp : PCall P f ds (.one (.bool t))) (e : frzVs (hpOf bs) args = some ds)
    (h1 : (bs.all fun b => b.tag != 0) = true) (h2 : (bs.all fun b => b.lv (live bs)) = true) : MCall P f args bs (.c (.d (.bool t))) bs :=
  MCall.frz hp (fun h h' v r => by simpa [RepD] using r) e (tag_non h1) h2
theorem MCall.frzI {P : Program} {f : FuncId} {args : List AV} {bs : List Blk} {ds : List DV} {k : IntKind} {i : Int} (hp : PCall P f ds (.one (.int k i))) (e : frzVs (hpOf bs) args = some ds)
    (h1 : (bs.all fun b => b.tag != 0) = true) (h2 : (bs.all fun b => b.lv (live bs)) = true) : MCall P f args bs (.c (.d (.int k i))) bs :=
  MCall.frz hp (fun h h' v r => by simpa [RepD] using r) e (tag_non h1) h2
end Go.Abs
