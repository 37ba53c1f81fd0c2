/- A law's claim where package variables are laid. -/
import Derived.Test.YtkgomampbengjaaGreatDoorAbs25
set_option linter.unusedVariables false
set_option linter.unusedSimpArgs false
namespace Go.Abs


/-- a law's claim where variables are laid, from its contract on data -/
theorem law_liftedX {C : Checked} {os : Os} {f : FuncId} {fn : Func} {s : ChangeSpec} {conds : List PathCond} {S : List TypeId} {rt : TypeId} {H : Type} {enc : TypeId × Value → H} {X : World → Prop} (hX : ∀ (w w' : World), w.heap = w'.heap → X w → X w') (hG : ∀ w : World, X w → Gnd C.prog fun B => w.heap[B]?)
    (own : ownKnob C.prog.godebug = none) (started : os.Started) (noInit : C.prog.inits.idxOf? f = none) (hfn : C.prog.funcs[f]? = some fn) (hvars : s.vars = [])
    (hS : (S.all fun t => goodT C.prog S t && C.prog.readableRec t && decide (t < C.prog.types.size)) = true) (hp : (fn.params.toList.all fun t => S.contains t) = true)
    (hres : fn.resultTypes = #[rt]) (hrt : C.prog.underlying rt = some .bool) (hl : laidOutB C.prog = true)
    (hspec : ∀ (ds : List (DataW H)), ds.length = fn.params.size → s.fn H ds = { results := [.lit (.bool true)], args := ds })
    (witness : ∃ (w : World) (tape : Tape) (i : Input), w.os = os ∧ (w.forCall tape i).Shaped C.prog ∧ i.vars = [] ∧ Input.okWide C.prog (w.forCall tape i) .any w.heap.size f i ∧
      ((s.pre enc C.prog fn conds false (w.forCall tape i).memory i.args ∧ X (w.forCall tape i).memory) ∧ sizedMet enc C.prog fn (OpenSpec.ofChange s) false (w.forCall tape i).memory i.args) ∧ ({} : Assume).holds C.prog (lone (Frame.enter C.prog f i.args .normal) [] (w.forCall tape i)))
    (hc : ∀ dvs, ShapeA C.prog fn.params.toList dvs → PCall C.prog f dvs (.one (.bool true))) :
    ReturnsInHanded {} C os f .any (fun w args => (s.pre enc C.prog fn conds false w args ∧ X w) ∧ sizedMet enc C.prog fn (OpenSpec.ofChange s) false w args) (s.post enc C.prog fn false true false false) := by
  refine returnsInHanded_of_change_and (X := fun w _ => X w) (fun w w' _ hh h => hX w w' hh h) own started noInit hfn witness ?_
  intro W base args ds gs before hval hW _ hwt hXW _
  simp only [List.all_eq_true, Bool.and_eq_true, decide_eq_true_eq, List.contains_iff_mem] at hS hp
  have hW' := hW
  obtain ⟨p, q, hA, hV, hpq, hfz, hnd⟩ := hW
  rw [hvars] at hV
  have hgs : gs = [] ∧ q = [] := by
    cases gs with
    | nil => exact ⟨rfl, hV⟩
    | cons g gs => exact hV.elim
  obtain ⟨rfl, rfl⟩ := hgs
  simp only [List.append_nil] at hpq
  subst hpq
  have hpv : s.plain.varTypes C.prog = [] := by unfold ChangeSpec.plain DataSpec.varTypes; rw [hvars]; rfl
  simp only [hpv, List.append_nil, List.all_eq_true, decide_eq_true_eq] at hwt
  have hlen : ∀ {ts : List TypeId} {vs : List Value} {ds : List (DataW H)} {ps : List MemPlace}, DataW.TrodAll enc C.prog W 0 (fun _ => true) true ts vs ds ps → ds.length = ts.length := by
    intro ts
    induction ts with
    | nil => intro vs ds ps h; cases vs <;> cases ds <;> first | rfl | exact h.elim
    | cons t ts ih =>
      intro vs ds ps h
      cases vs <;> cases ds <;> first | exact h.elim | skip
      obtain ⟨_, _, _, h2, _⟩ := h
      simp [ih h2]
  obtain ⟨dvs, d1, d2⟩ := args_rep (fun t ht => (hS t ht).1.1) hp (fun j t v ht hv => hval j t v (by simpa using ht) (by simpa using hv)) hA hwt
  have hcall := (hc dvs d1).2 (fun B => W.heap[B]?) W args.toList (fun B o h => h) (hG W hXW) d2
  refine (show Calls C.prog f args.toList.toArray W _ from hcall).mono fun e W' he => ?_
  obtain ⟨vC, h', rfl, _, _, _, hsz, hold, ⟨so, st, sp⟩, rv⟩ := he
  simp only [RepDV, RepD] at rv
  subst rv
  have hb : Go.RowKit.Below W.heap.size W W' := ⟨so, st, sp, hsz, hold⟩
  have hsp := hspec ds (by simpa using hlen hA)
  refine ⟨_, rfl, ds, [], before, [], before, [], hW', ?_, ?_, ?_, hb.frame _, fun h => by cases h⟩
  · rw [List.append_nil, hsp, hres]
    refine ⟨[], [], ⟨1, ?_⟩, rfl, rfl⟩
    unfold DataW.trod
    rw [hrt]
    rfl
  · rw [List.append_nil, hsp]
    exact trodAll_stays hl hb (fun t ht => ⟨(hS t (hp t ht)).1.2, (hS t (hp t ht)).2⟩) hA (fun x hx => hW'.lt x hx)
  · rw [List.append_nil, hsp, hvars]
    rfl

end Go.Abs
