/- Calls that are handed blocks, reckoned by simp. -/
import Derived.Test.YtkgomampbengjaaGreatDoorAbs22
set_option linter.unusedVariables false
set_option linter.unusedSimpArgs false
namespace Go.Abs

def callKM (P : Program) (f : FuncId) (vs : List AV) (m : Hp) (n : Nat) (K : AV → List Nat → List (Nat × Blk) → Nat → Prop) (_ : Tag K) : Prop := mcallB P f vs m n K
theorem callKM.mk {P : Program} {f : FuncId} {vs : List AV} {m : Hp} {n : Nat} {K : AV → List Nat → List (Nat × Blk) → Nat → Prop} {g : Tag K} (l : List Nat) {args : List AV} {bs : List Blk} {v : AV} {bs' : List Blk} (h : MCall P f args bs v bs')
    (hs : l.Nodup ∧ (∀ i, i ∈ l → i < n) ∧ vs = AV.rens (fOf l) args ∧ AV.lts l.length args = true ∧ (∀ b, b ∈ bs → b.lt l.length = true) ∧ atL m (fOf l) l bs ∧ freshB m n (bs'.length - bs.length))
    (k : K (v.ren (fOf (l ++ newN n (bs'.length - bs.length)))) [] (wrL (fOf (l ++ newN n (bs'.length - bs.length))) (l ++ newN n (bs'.length - bs.length)) bs') (n + (bs'.length - bs.length))) : callKM P f vs m n K g :=
  ⟨l, args, bs, v, bs', h, hs.1, hs.2.1, hs.2.2.1, hs.2.2.2.1, hs.2.2.2.2.1, hs.2.2.2.2.2.1, hs.2.2.2.2.2.2, k⟩

section
variable {P : Program} {get : Nat → AV} {m : Hp} {n : Nat} {K : AV → List Nat → List (Nat × Blk) → Nat → Prop}
@[simp] theorem ev_callM (f : FuncId) (xs : List MX) {g} : eV P K (.callM f xs) g get m n = callKM P f (xs.map (X get)) m n K ⟨⟩ := (Eq.refl _).trans rfl
@[simp] theorem ev_calldM (x : MX) (xs : List MX) {g} : eV P K (.calldM x xs) g get m n = (match X get x with
    | .c (.fn (.func f) caps) => callKM P f (xs.map (X get) ++ caps.map .c) m n K ⟨⟩
    | .c (.d (.fn (.func f) caps)) => callKM P f (xs.map (X get) ++ caps.map fun c => .c (.d c)) m n K ⟨⟩
    | _ => False) := (Eq.refl _).trans rfl
end

def Blk.tag : Blk → Nat
  | .non => 0
  | .dead => 1
  | _ => 2
attribute [simp] Blk.tag

/-- what is to be seen of a contract's blocks at once -/
def MStat (args : List AV) (N : Nat) (bs : List Blk) (v : AV) (bs' : List Blk) : Prop :=
  args.length ≤ N ∧ (bs.all fun b => b.tag != 0) = true ∧ bs.length ≤ bs'.length ∧ (bs'.all fun b => b.tag != 0) = true ∧ ((bs'.drop bs.length).all fun b => b.tag == 2) = true ∧ v.lv (live bs') = true ∧ (bs'.all fun b => b.lv (live bs')) = true

theorem tag_non {bs : List Blk} (h : (bs.all fun b => b.tag != 0) = true) (i : Nat) (hi : i < bs.length) : hpOf bs i ≠ .non := by
  intro e
  have := List.all_eq_true.1 h _ (List.mem_of_getElem? (hpOf_get hi))
  rw [e] at this; simp at this
theorem tag_dead {bs : List Blk} {k : Nat} (h : ((bs.drop k).all fun b => b.tag == 2) = true) (i : Nat) (hk : k ≤ i) (hi : i < bs.length) : hpOf bs i ≠ .dead := by
  intro e
  have hm : hpOf bs i ∈ bs.drop k := by
    refine List.mem_of_getElem? (i := i - k) ?_
    rw [List.getElem?_drop, show k + (i - k) = i by omega]
    exact hpOf_get hi
  have := List.all_eq_true.1 h _ hm
  rw [e] at this; simp at this

theorem MCall.of_walk' {P : Program} {f : FuncId} {fn : Func} {code : Code} {mc : MC} {rs : List MR} {args : List AV} {bs : List Blk} {v : AV} {bs' : List Blk} (hf : P.funcs[f]? = some fn) (hb : fn.body = some code) (hname : (fn.name != "runtime.NumGoroutine") = true)
    (hc : chkC P fn.ntmps mc code = true) (hr : chkR P rs fn.results.toList = true) (hm : P.follows .mixedOrders = true) (hs : MStat args fn.ntmps bs v bs')
    (h : ∀ ts : List (Nat × Nat), ts.length = bs.length → AV.okL args → (∀ b, b ∈ bs → b.ok) → ∀ c : Ctx, c.N = fn.ntmps → c.pure → w_ P c mc (endM rs v bs' ts) ⟨⟩ ⟨argA 0 args, hpOf (bs ++ pinsL 0 ts), bs.length + ts.length⟩) : MCall P f args bs v bs' :=
  MCall.of_walk hf hb hname hc hr hs.1 (tag_non hs.2.1) hs.2.2.1 (tag_non hs.2.2.2.1) (tag_dead hs.2.2.2.2.1) hs.2.2.2.2.2.1 (fun b hb => List.all_eq_true.1 hs.2.2.2.2.2.2 b hb) fun ts h1 h2 h3 c h4 h5 => W.aw hm (w_start (h ts h1 h2 h3 c h4 h5))
end Go.Abs
