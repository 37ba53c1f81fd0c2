/- The abstract operations one by one (1): values, arithmetic, comparisons. -/
import Derived.Test.YtkgomampbengjaaGreatDoorAbs4
import Derived.Lib.Bytealg
import Derived.WideShapes
set_option linter.unusedVariables false
set_option linter.unusedSimpArgs false
namespace Go.Abs

section
variable {P : Program} {w : World}

theorem eqGuard_runs (op : BinOp) (t : TypeId) (x y : Operand) (a b : Value) (h1 : ¬ (a = .nilIface ∧ b = .nilIface)) (h2 : ∀ c d, ¬ (a = .agg c ∧ b = .agg d)) : Runs P (eqGuard op t x y a b) w () w := by
  cases op <;> first
    | exact Runs.pure ()
    | (cases a <;> first
        | exact Runs.pure ()
        | (cases b <;> first
            | exact Runs.pure ()
            | exact absurd ⟨rfl, rfl⟩ h1
            | exact absurd ⟨rfl, rfl⟩ (h2 _ _)))

theorem IntKind.two_pow_pos (k : IntKind) : (0 : Int) < 2 ^ k.bits := by cases k <;> decide

theorem wrap_range (k : IntKind) (n : Int) : k.min ≤ k.wrap n ∧ k.wrap n ≤ k.max := by
  cases k <;> simp only [IntKind.wrap, IntKind.min, IntKind.max, IntKind.bits, IntKind.signed] <;> constructor <;> simp <;> (try split) <;> omega

theorem wrap_id {k : IntKind} {n : Int} (h1 : k.min ≤ n) (h2 : n ≤ k.max) : k.wrap n = n := by
  cases k <;> simp only [IntKind.wrap, IntKind.min, IntKind.max, IntKind.bits, IntKind.signed] at * <;> simp at * <;> (try split) <;> omega

def evI (op : BinOp) (k : IntKind) (a b : Int) : Option D :=
  match op with
  | .add => some (.int k (k.wrap (a + b)))
  | .sub => some (.int k (k.wrap (a - b)))
  | .mul => some (.int k (k.wrap (a * b)))
  | .and => some (.int k (k.wrap (BitVec.ofInt k.bits a &&& BitVec.ofInt k.bits b).toNat))
  | .or => some (.int k (k.wrap (BitVec.ofInt k.bits a ||| BitVec.ofInt k.bits b).toNat))
  | .xor => some (.int k (k.wrap (BitVec.ofInt k.bits a ^^^ BitVec.ofInt k.bits b).toNat))
  | .andNot => some (.int k (k.wrap (BitVec.ofInt k.bits a &&& ~~~(BitVec.ofInt k.bits b)).toNat))
  | .eql => some (.bool (decide (a = b)))
  | .neq => some (.bool (decide (¬ a = b)))
  | .lss => some (.bool (decide (a < b)))
  | .leq => some (.bool (decide (a ≤ b)))
  | .gtr => some (.bool (decide (b < a)))
  | .geq => some (.bool (decide (b ≤ a)))
  | _ => none

theorem evI_ok {op : BinOp} {k : IntKind} {a b : Int} {d : D} (h : evI op k a b = some d) (T : TypeId) (ph : PH) : ∃ v, Runs P (binOp op T (.int k a) (.int k b)) w v w ∧ RepD ph d v := by
  have key : ∀ (msg : String) (x : Sem Value), binOp op T (.int k a) (.int k b) = (if k ≠ k then stuck msg else x) → ∀ v, x = Pure.pure v → Runs P (binOp op T (.int k a) (.int k b)) w v w := by
    intro msg x hx v hv
    rw [hx, if_neg (by simp), hv]
    exact Runs.pure _
  cases op <;> simp only [evI] at h <;> first
    | (cases h; done)
    | (cases h
       refine ⟨_, key _ _ rfl _ rfl, ?_⟩
       unfold RepD
       exact ⟨rfl, wrap_range _ _⟩)
    | (cases h
       refine ⟨_, key _ _ rfl _ rfl, ?_⟩
       unfold RepD
       refine congrArg Value.bool ?_
       rw [Bool.eq_iff_iff]
       try simp)

theorem divI_ok {op : BinOp} {k : IntKind} {a b : Int} (hop : op = .quo ∨ op = .rem) (hb : b ≠ 0) (ha : k.min ≤ a ∧ a ≤ k.max) (hb' : k.min ≤ b ∧ b ≤ k.max) (T : TypeId) (ph : PH) :
    ∃ v, Runs P (binOp op T (.int k a) (.int k b)) w v w ∧ RepD ph (.int k (if op = .quo then k.wrap (a.tdiv b) else a.tmod b)) v := by
  have key : ∀ (msg : String) (x : Sem Value), binOp op T (.int k a) (.int k b) = (if k ≠ k then stuck msg else x) → ∀ v, Runs P x w v w → Runs P (binOp op T (.int k a) (.int k b)) w v w := by
    intro msg x hx v hv
    rw [hx, if_neg (by simp)]
    exact hv
  rcases hop with rfl | rfl
  · refine ⟨_, key _ _ rfl _ (by unfold Op.intDiv; rw [if_neg hb]; exact Runs.pure _), ?_⟩
    rw [if_pos rfl]
    unfold RepD
    exact ⟨rfl, wrap_range _ _⟩
  · refine ⟨_, key _ _ rfl _ (by unfold Op.intDiv; rw [if_neg hb]; exact Runs.pure _), ?_⟩
    rw [if_neg (by decide)]
    unfold RepD
    refine ⟨rfl, ?_, ?_⟩
    · by_cases h0 : 0 ≤ a
      · have := Int.tmod_nonneg b h0
        have hm : k.min ≤ 0 := by cases k <;> decide
        omega
      · have h1 : (-a).tmod b = -(a.tmod b) := Int.neg_tmod ..
        have h2 := Int.tmod_nonneg (a := -a) b (by omega)
        have h3 : (-a).tmod b ≤ -a := by
          have e : ((-a).toNat : Int) = -a := by omega
          have := Int.natAbs_tmod (-a) b
          have h4 : ((-a).tmod b).natAbs ≤ (-a).natAbs := by rw [this]; exact Nat.mod_le _ _
          omega
        omega
    · by_cases h0 : 0 ≤ a
      · have h2 := Int.tmod_nonneg b h0
        have := Int.natAbs_tmod a b
        have h4 : (a.tmod b).natAbs ≤ a.natAbs := by rw [this]; exact Nat.mod_le _ _
        omega
      · have h1 : (-a).tmod b = -(a.tmod b) := Int.neg_tmod ..
        have h2 := Int.tmod_nonneg (a := -a) b (by omega)
        have hm : 0 ≤ k.max := by cases k <;> decide
        omega

theorem toList_inj (a b : ByteArray) : (a.toList == b.toList) = decide (a = b) := by
  rw [Bool.eq_iff_iff]
  simp only [beq_iff_eq, decide_eq_true_eq]
  constructor
  · intro h
    rw [ByteArray.toList_eq, ByteArray.toList_eq] at h
    exact Go.WideShapes.bytes_inj h
  · intro h; rw [h]

def evS (op : BinOp) (a b : ByteArray) : Option D :=
  match op with
  | .eql => some (.bool (decide (a = b)))
  | .neq => some (.bool (!decide (a = b)))
  | .lss => some (.bool (Op.bytesLess a.data.toList b.data.toList))
  | .leq => some (.bool (Op.bytesLess a.data.toList b.data.toList || decide (a = b)))
  | .gtr => some (.bool (!(Op.bytesLess a.data.toList b.data.toList || decide (a = b))))
  | .geq => some (.bool (!Op.bytesLess a.data.toList b.data.toList))
  | _ => none

theorem evS_ok {op : BinOp} {a b : ByteArray} {d : D} (h : evS op a b = some d) (T : TypeId) (ph : PH) : ∃ v, Runs P (binOp op T (.string a) (.string b)) w v w ∧ RepD ph d v := by
  have key : binOp op T (.string a) (.string b) = Op.stringOp op a b := by cases op <;> rfl
  rw [key]
  unfold Op.stringOp
  rw [toList_inj, ByteArray.toList_eq, ByteArray.toList_eq]
  cases op <;> simp only [evS] at h <;> first
    | (cases h; done)
    | (cases h; exact ⟨_, Runs.pure _, rfl⟩)

theorem cat_ok {a b : ByteArray} (h : a.size + b.size ≤ lenMax) (T : TypeId) (ph : PH) : ∃ v, Runs P (binOp .add T (.string a) (.string b)) w v w ∧ RepD ph (.str (a ++ b)) v := by
  refine ⟨.string (a ++ b), ?_, ?_⟩
  · show Runs P (Op.stringOp .add a b) w _ w
    unfold Op.stringOp
    simp only
    rw [if_neg]
    · exact Runs.pure _
    · unfold lenMax at h
      have : IntKind.i64.max = 9223372036854775807 := by decide
      rw [this]
      simp only [gt_iff_lt, Int.not_lt]
      omega
  · unfold RepD
    exact ⟨rfl, by rw [ByteArray.size_append]; exact h⟩

def evB (op : BinOp) (a b : Bool) : Option D :=
  match op with
  | .eql => some (.bool (a == b))
  | .neq => some (.bool (!(a == b)))
  | _ => none

theorem evB_ok {op : BinOp} {a b : Bool} {d : D} (h : evB op a b = some d) {T : TypeId} (hT : P.underlying T = some .bool) (ph : PH) : ∃ v, Runs P (binOp op T (.bool a) (.bool b)) w v w ∧ RepD ph d v := by
  have eq : Runs P (Op.equal T (.bool a) (.bool b)) w (a == b) w := by
    unfold Op.equal Op.maxDepth Op.equalIn
    refine (Runs.underlying hT).bind ?_
    exact Runs.pure _
  cases op <;> simp only [evB] at h <;> first
    | (cases h; done)
    | (cases h; exact ⟨_, eq.bind (Runs.pure _), rfl⟩)

end
end Go.Abs
