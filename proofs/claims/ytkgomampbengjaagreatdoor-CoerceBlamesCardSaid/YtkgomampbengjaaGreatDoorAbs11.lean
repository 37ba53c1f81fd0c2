/- The abstract operations (7): append. -/
import Derived.Test.YtkgomampbengjaaGreatDoorAbs10
set_option linter.unusedVariables false
set_option linter.unusedSimpArgs false
namespace Go.Abs

theorem growBy_le (n : Nat) : ∀ (r c : Nat), Builtin.growBy n r c ≤ max c (n + (n + 768) / 4)
  | 0, c => by simp only [Builtin.growBy]; omega
  | r + 1, c => by
    simp only [Builtin.growBy]
    split
    · omega
    · have := growBy_le n r (c + (c + 768) / 4)
      have h2 : c + (c + 768) / 4 ≤ n + (n + 768) / 4 := by omega
      omega

theorem nextslicecap_le {n c : Nat} (h : c < n) : Builtin.nextslicecap n c ≤ 2 * n + 400 := by
  unfold Builtin.nextslicecap
  split
  · omega
  · split
    · omega
    · have := growBy_le n 4 c
      omega

section
variable {P : Program} {get : Nat → AV} {m : Hp} {n : Nat}

theorem Runs.lenOf_slice {w : World} {a : Option Addr} {l c : Nat} : Runs P (Builtin.lenOf (.slice a l c)) w l w := Runs.pure _

theorem runs_append_in {T T' ty e : TypeId} {i : TypeInfo} {d' : TypeDesc} {base : Option Addr} {sLen sCap k : Nat} {x : Value} {w w' : World} {new : Array Value} (hu : P.underlying T = some (.slice e)) (hi : P.info? e = some i)
    (hu' : P.underlying T' = some d') (hnot : ∀ k, d' ≠ .int k) (hn : Runs P (Builtin.lenOf x) w k w) (hle : sLen + k ≤ sCap) (hnew : Runs P (Builtin.firstCells i.size k x) w new w)
    (hst : ∀ a, base = some a → Runs P (storeCells (a.add (sLen * i.size)) new.toList) w () w') (hst' : base = none → w' = w) :
    Runs P (Builtin.append_ #[T, T'] ty #[.slice base sLen sCap, x]) w (.slice base (sLen + k) sCap) w' := by
  unfold Builtin.append_
  show Runs P (do
    let d ← underlying T
    _) w _ w'
  refine (Runs.underlying hu).bind ((Runs.sizeOf hi).bind ?_)
  dsimp only [show (#[T, T'] : Array TypeId)[1]? = some T' from rfl]
  refine (Runs.underlying hu').bind ?_
  refine Runs.bind (a := false) (w' := w) ?_ ?_
  · cases d' <;> first | exact Runs.pure _ | exact absurd rfl (hnot _)
  rw [if_neg (by simp)]
  refine Runs.bind hn ?_
  rw [if_pos hle]
  refine Runs.bind hnew ?_
  cases base with
  | none =>
    rw [hst' rfl]
    exact Runs.pure _
  | some a =>
    exact (hst a rfl).bind (Runs.pure _)

/-- the world with one answer drawn -/
def World.drew1 (w : World) : World := { w with drawn := w.drawn + 1 }

theorem runs_append_new {T T' ty e : TypeId} {i : TypeInfo} {d' : TypeDesc} {zv : Value} {base : Option Addr} {sLen sCap k : Nat} {x : Value} {w : World} {old new : Array Value} (hu : P.underlying T = some (.slice e)) (hi : P.info? e = some i)
    (hz : i.zero = some zv) (hu' : P.underlying T' = some d') (hnot : ∀ k, d' ≠ .int k) (hn : Runs P (Builtin.lenOf x) w k w) (hgt : sCap < sLen + k) (hb : (sLen + k) * i.bytes ≤ 70368744177664) (hb0 : 0 < i.bytes) (hb1 : i.bytes ≤ 1073741824)
    (hold : Runs P (Builtin.firstCells i.size sLen (.slice base sLen sCap)) (World.drew1 w) old (World.drew1 w)) (hnew : Runs P (Builtin.firstCells i.size k x) (World.drew1 w) new (World.drew1 w)) :
    ∃ newCap, sLen + k ≤ newCap ∧ Runs P (Builtin.append_ #[T, T'] ty #[.slice base sLen sCap, x]) w (.slice (some ⟨w.heap.size, 0, none⟩) (sLen + k) newCap)
      { World.drew1 w with heap := w.heap.push (.cells (old ++ new ++ Builtin.zeroCells zv.cells (newCap - (sLen + k))) e) } := by
  have hneed : sLen + k ≤ 70368744177664 := by
    have : (sLen + k) * 1 ≤ (sLen + k) * i.bytes := Nat.mul_le_mul_left _ hb0
    omega
  let q : Question := .appendCap (sLen + k) sCap e
  refine ⟨q.cut (w.tape w.drawn q), ?_, ?_⟩
  · show sLen + k ≤ (Question.appendCap (sLen + k) sCap e).cut _
    simp only [Question.cut]; omega
  unfold Builtin.append_
  refine (Runs.underlying hu).bind ((Runs.sizeOf hi).bind ?_)
  dsimp only [show (#[T, T'] : Array TypeId)[1]? = some T' from rfl]
  refine (Runs.underlying hu').bind ?_
  refine Runs.bind (a := false) (w' := w) ?_ ?_
  · cases d' <;> first | exact Runs.pure _ | exact absurd rfl (hnot _)
  rw [if_neg (by simp)]
  refine Runs.bind hn ?_
  rw [if_neg (by omega)]
  refine (Runs.typeInfo hi).bind ?_
  rw [if_neg (by
    rintro ⟨_, h⟩
    rcases h with h | h
    · cases h
    · omega)]
  refine (Runs.typeInfo hi).bind ?_
  rw [if_neg (by
    have h1 := nextslicecap_le hgt
    have h2 : Builtin.nextslicecap (sLen + k) sCap * i.bytes ≤ (2 * (sLen + k) + 400) * i.bytes := Nat.mul_le_mul_right _ h1
    have h3 : (2 * (sLen + k) + 400) * i.bytes = 2 * ((sLen + k) * i.bytes) + 400 * i.bytes := by rw [Nat.add_mul, Nat.mul_assoc]
    omega)]
  refine Runs.bind (a := q.cut (w.tape w.drawn q)) (w' := World.drew1 w) ?_ ?_
  · rfl
  refine (Runs.typeInfo hi).bind ((Runs.askRoom _).bind ?_)
  refine hold.bind ?_
  refine Runs.bind hnew ?_
  refine (Runs.zeroValue hi hz).bind ?_
  unfold newRow
  exact ((Runs.newObj _).bind (Runs.pure _)).bind (Runs.pure _)

theorem RepCE.one {h : PH} {ρ : RM} {s : Nat} : ∀ {es : List (List AC)} {vs : List Value}, RepCE h ρ s es vs → vs.length = es.length * s → ∀ v, v ∈ vs → v.one1 = true
  | [], vs, _, e, v, hv => by
    have : vs = [] := by simpa using e
    subst this; cases hv
  | e0 :: es, vs, r, e, v, hv => by
    simp only [RepCE] at r
    have hl : vs.length = s + es.length * s := by simpa [Nat.add_mul, Nat.add_comm] using e
    rw [← List.take_append_drop s vs] at hv
    rcases List.mem_append.1 hv with hv | hv
    · have := r.2.1.take
      rw [r.1] at this
      exact RepCL.one this (by simp; omega) v hv
    · exact RepCE.one r.2.2 (by simp; omega) v hv

/-- only as many cells as there are elements -/
theorem RepCE.takeAll {ph : PH} {ρ : RM} {s : Nat} : ∀ {es : List (List AC)} {us : List Value}, RepCE ph ρ s es us → RepCE ph ρ s es (us.take (es.length * s))
  | [], us, _ => by simp [RepCE]
  | e :: es, us, r => by
    simp only [RepCE] at r ⊢
    have e2 : (e :: es).length * s = s + es.length * s := by simp [Nat.add_mul, Nat.add_comm]
    have hl := r.2.1.length
    refine ⟨r.1, ?_, ?_⟩
    · have := r.2.1.take
      rw [r.1] at this
      rw [e2, List.take_add]
      exact this.more _
    · rw [e2, List.take_add]
      rw [List.drop_append_of_le_length (by simp; omega), List.drop_of_length_le (by simp; omega)]
      simpa using RepCE.takeAll r.2.2

/-- what is appended, in the real world -/
theorem srcs_ok {s : Nat} {y : MX} {K : List (List AC) → List Nat → Prop} (hK : srcs get m s K y) : ∃ ys rd, K ys rd ∧ ∀ {m' : Hp}, (∀ b, b ∈ rd → m' b = m b) → ∀ {ph : PH} {ρ : RM} {w : World} {v : Value}, HRel ph ρ m' w.heap → RepV ph ρ (X get y) v →
    ∃ new : List Value, Runs P (Builtin.lenOf v) w ys.length w ∧ (∀ w2 : World, w2.heap = w.heap → Runs P (Builtin.firstCells s ys.length v) w2 new.toArray w2) ∧ new.length = ys.length * s ∧ RepCE ph ρ s ys new := by
  unfold srcs at hK
  split at hK
  · rename_i fl s' ys ey
    obtain ⟨k1, hK⟩ := hK
    subst k1
    refine ⟨_, _, hK, fun {m'} hm {ph ρ w v} hr rv => ?_⟩
    rw [ey] at rv
    simp only [RepV, RepC, RepD] at rv
    obtain ⟨a, cap, r1, r2, r3, r4, r5, r6, r7⟩ := rv
    subst r1
    have htot := r7.total
    refine ⟨(cellsAt ph a).take (ys.length * s), by simp only [List.length_map]; exact Runs.pure _, ?_, by simp; omega, ?_⟩
    · intro w2 hw2
      simp only [List.length_map]
      cases a with
      | none =>
        have := (r5 rfl).1
        subst this
        simp only [Builtin.firstCells]
        simpa using (Runs.pure (#[] : Array Value))
      | some q =>
        obtain ⟨B, off, spot⟩ := q
        simp only [Builtin.firstCells]
        by_cases hys : ys.length = 0
        · rw [hys]
          simp only [Nat.zero_mul, List.take_zero]
          simpa using Runs.loadCells0 (P := P) _ w2
        have := r6 _ rfl (by omega)
        simp only at this
        subst this
        have hlen : ((cellsAt ph (some ⟨B, off, none⟩)).take (ys.length * s)).length = ys.length * s := by simp; omega
        have := Runs.loadCells (P := P) (w := w2) (B := B) (o := off) (vs := (cellsAt ph (some ⟨B, off, none⟩)).take (ys.length * s)) (fun j u hj => by
          have hj' := take_get hj
          simp only [cellsAt, List.getElem?_drop] at hj'
          unfold hcells at hj'
          cases hB : ph B with
          | none => rw [hB] at hj'; simp at hj'
          | some ob =>
            rw [hB] at hj'
            cases ob with
            | cells c T' fr =>
              rw [cell_of (by rw [hw2]; exact hr.pers B _ hB)]
              simpa using hj'
            | _ => simp at hj')
        rw [hlen] at this
        exact this
    · have r8 := RepCE.of_E (ρ := ρ) r7
      have := r8.takeAll
      simpa using this
  · rename_i s' b off len ey
    split at hK
    · rename_i s'' es eb
      obtain ⟨k1, k2, k3, hK⟩ := hK
      subst k1 k2
      refine ⟨_, _, hK, fun {m'} hm {ph ρ w v} hr rv => ?_⟩
      rw [ey] at rv
      simp only [RepV, RepC] at rv
      obtain ⟨p, a, r1, r2, r3, r4, _⟩ := rv
      subst r2
      have how := hr.own b p r1
      rw [hm b (by simp), eb] at how
      have hlen : ((es.drop off).take len).length = len := by simp; omega
      rw [hlen]
      rcases how with ⟨h1, h2⟩ | ⟨us, U, g1, g2, g3, g5, g4⟩
      · subst h2
        have : len = 0 := by simp at k3; omega
        subst this
        refine ⟨[], Runs.pure _, fun w2 _ => ?_, by simp, by simp [RepCE]⟩
        cases a with
        | none => exact Runs.pure _
        | some q => simp only [Builtin.firstCells, Nat.zero_mul]; exact Runs.pure _
      · have hm2 : (off + len) * s ≤ p.2 * s := Nat.mul_le_mul_right s r3
        have e2 : (off + len) * s = off * s + len * s := Nat.add_mul ..
        refine ⟨(us.drop (off * s)).take (len * s), Runs.pure _, fun w2 hw2 => ?_, by simp; omega, ?_⟩
        · by_cases hlt : off < p.2
          · have := r4 hlt
            subst this
            simp only [Builtin.firstCells]
            have hl2 : ((us.drop (off * s)).take (len * s)).length = len * s := by simp; omega
            have := Runs.loadCells (P := P) (w := w2) (B := p.1) (o := off * s) (vs := (us.drop (off * s)).take (len * s)) (fun j u hj => by
              have hj' := take_get hj
              rw [cell_of (by rw [hw2]; exact g1)]
              simpa [List.getElem?_drop] using hj')
            rw [hl2] at this
            exact this
          · have : len = 0 := by omega
            subst this
            cases a with
            | none => simp only [Builtin.firstCells, Nat.zero_mul, List.take_zero]; exact rfl
            | some q => simp only [Builtin.firstCells, Nat.zero_mul, List.take_zero]; exact rfl
        · have r5 := (g4.drop off).takeEs len
          have := r5.takeAll
          rw [hlen] at this
          exact this
    · exact hK.elim
  · exact hK.elim

end
end Go.Abs
