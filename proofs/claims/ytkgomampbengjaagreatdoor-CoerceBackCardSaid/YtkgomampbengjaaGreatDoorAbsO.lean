/- Nil slices that are taken for the walk's own: blocks of no place. -/
import Derived.Test.YtkgomampbengjaaGreatDoorAbsF
set_option linter.unusedVariables false
set_option linter.unusedSimpArgs false
namespace Go.Abs

/-- where a nil slice stands: in a temporary; in a cell of a box; in a cell of a struct that a temporary holds -/
inductive OwP where
  | t (k : Nat)
  | c (b i : Nat)
  | a (k i : Nat)

section
variable {h : PH} {ρ : RM} {m : Hp} {w : Heap}
theorem HRel.reblk (H : HRel h ρ m w) {b : Nat} {p : Nat × Nat} (e : ρ b = some p) {blk : Blk} (hn : blk ≠ .non) (hr : Real blk p ↔ Real (m b) p) (r : BlkRep h ρ p blk w) :
    HRel h ρ (upd m b blk) w ∧ Step h ρ m w h ρ (upd m b blk) w := by
  have key : ∀ c q, ρ c = some q → (Real (upd m b blk c) q ↔ Real (m c) q) := fun c q hq => by
    by_cases hc : c = b
    · subst hc; rw [upd_same]; rw [e] at hq; cases hq; exact hr
    · rw [upd_ne _ _ hc]
  refine ⟨⟨H.pers, ?_, ?_, ?_, ?_⟩, ⟨PH.le_refl h, fun B hB _ => rfl, RM.le_refl _, Nat.le_refl _, fun B hB _ => rfl, ?_⟩⟩
  · intro c
    by_cases hc : c = b
    · subst hc; rw [upd_same, e]; simp [hn]
    · rw [upd_ne _ _ hc]; exact H.dom c
  · intro c q hq
    by_cases hc : c = b
    · subst hc; rw [upd_same]; rw [e] at hq; cases hq; exact r
    · rw [upd_ne _ _ hc]; exact H.own c q hq
  · intro c d q r hc hd hs ht heq
    exact H.inj c d q r hc hd ((key c q hc).1 hs) ((key d r hd).1 ht) heq
  · intro c q hq hs
    exact H.sep c q hq ((key c q hq).1 hs)
  · intro c q hq hs
    exact .inr ⟨c, q, hq, (key c q hq).1 hs, rfl⟩

theorem RepC.own {s n : Nat} {v : Value} (e : ρ n = some (0, 0)) (r : RepC h ρ (.d (.sl true s [])) v) : RepC h ρ (.msl s n 0 0) v := by
  simp only [RepC, RepD] at r ⊢
  obtain ⟨a, cap, r1, r2, r3, r4, r5, r6, r7⟩ := r
  have hc : cap = 0 := by simpa using r3 trivial
  subst hc
  exact ⟨(0, 0), a, e, by simpa using r1, Nat.le_refl _, fun h => absurd h (by simp), fun q _ h => absurd h (by simp)⟩

theorem RepCL.setAt {c' : AC} : ∀ {cs : List AC} {vs : List Value} {i : Nat} {c : AC}, cs[i]? = some c → (∀ v : Value, RepC h ρ c v → RepC h ρ c' v) → RepCL h ρ cs vs → RepCL h ρ (cs.set i c') vs
  | [], vs, i, c, e, _, _ => by simp at e
  | _ :: _, [], _, _, _, _, r => by simp [RepCL] at r
  | d :: cs, v :: vs, 0, c, e, hc, r => by
    simp only [List.getElem?_cons_zero, Option.some.injEq] at e
    subst e
    simp only [RepCL, List.set_cons_zero] at r ⊢
    exact ⟨⟨r.1.1, hc v r.1.2⟩, r.2⟩
  | d :: cs, v :: vs, i + 1, c, e, hc, r => by
    simp only [List.getElem?_cons_succ] at e
    simp only [RepCL, List.set_cons_succ] at r ⊢
    exact ⟨r.1, RepCL.setAt e hc r.2⟩
end

def owG (S : St) : List OwP → (St → Prop) → Prop
  | [], K => K S
  | .t k :: l, K => match S.get k with
    | .c (.d (.sl true s [])) => S.m S.n = .non ∧ owG ⟨(k, .c (.msl s S.n 0 0)) :: S.t, upd S.m S.n (.arr s []), S.n + 1⟩ l K
    | _ => False
  | .a k i :: l, K => match S.get k with
    | .ag cs => match cs[i]? with
      | some (.d (.sl true s [])) => S.m S.n = .non ∧ owG ⟨(k, .ag (cs.set i (.msl s S.n 0 0))) :: S.t, upd S.m S.n (.arr s []), S.n + 1⟩ l K
      | _ => False
    | _ => False
  | .c b i :: l, K => match S.m b with
    | .box cs => match cs[i]? with
      | some (.d (.sl true s [])) => S.m S.n = .non ∧ owG ⟨S.t, upd (upd S.m S.n (.arr s [])) b (.box (cs.set i (.msl s S.n 0 0))), S.n + 1⟩ l K
      | _ => False
    | _ => False

@[simp] theorem owG_nil {S : St} {K : St → Prop} : owG S [] K = K S := (Eq.refl _).trans rfl
@[simp] theorem owG_t {S : St} {K : St → Prop} {k : Nat} {l : List OwP} : owG S (.t k :: l) K = (match S.get k with
    | .c (.d (.sl true s [])) => S.m S.n = .non ∧ owG ⟨(k, .c (.msl s S.n 0 0)) :: S.t, upd S.m S.n (.arr s []), S.n + 1⟩ l K
    | _ => False) := (Eq.refl _).trans rfl
@[simp] theorem owG_a {S : St} {K : St → Prop} {k i : Nat} {l : List OwP} : owG S (.a k i :: l) K = (match S.get k with
    | .ag cs => match cs[i]? with
      | some (.d (.sl true s [])) => S.m S.n = .non ∧ owG ⟨(k, .ag (cs.set i (.msl s S.n 0 0))) :: S.t, upd S.m S.n (.arr s []), S.n + 1⟩ l K
      | _ => False
    | _ => False) := (Eq.refl _).trans rfl
@[simp] theorem owG_c {S : St} {K : St → Prop} {b i : Nat} {l : List OwP} : owG S (.c b i :: l) K = (match S.m b with
    | .box cs => match cs[i]? with
      | some (.d (.sl true s [])) => S.m S.n = .non ∧ owG ⟨S.t, upd (upd S.m S.n (.arr s [])) b (.box (cs.set i (.msl s S.n 0 0))), S.n + 1⟩ l K
      | _ => False
    | _ => False) := (Eq.refl _).trans rfl

theorem owG.mono {K K' : St → Prop} : ∀ (l : List OwP) {S : St}, owG S l K → (∀ S', K S' → K' S') → owG S l K'
  | [], S, h, k => k S h
  | .t i :: l, S, h, k => by
    unfold owG at h ⊢
    split <;> rename_i q
    · rename_i s
      rw [q] at h
      exact ⟨h.1, owG.mono l h.2 k⟩
    · split at h
      · rename_i s e; exact (q s e).elim
      · exact h
  | .a j i :: l, S, h, k => by
    unfold owG at h ⊢
    split <;> rename_i q
    · rename_i cs
      rw [q] at h
      simp only at h
      split <;> rename_i q'
      · rename_i s
        rw [q'] at h
        exact ⟨h.1, owG.mono l h.2 k⟩
      · split at h
        · rename_i s e; exact (q' s e).elim
        · exact h
    · split at h
      · rename_i s e; exact (q s e).elim
      · exact h
  | .c b i :: l, S, h, k => by
    unfold owG at h ⊢
    split <;> rename_i q
    · rename_i cs
      rw [q] at h
      simp only at h
      split <;> rename_i q'
      · rename_i s
        rw [q'] at h
        exact ⟨h.1, owG.mono l h.2 k⟩
      · split at h
        · rename_i s e; exact (q' s e).elim
        · exact h
    · split at h
      · rename_i s e; exact (q s e).elim
      · exact h

section
variable {P : Program} {c : Ctx} {S : St} {a : Act} {w : World}
theorem Rel.own0 (R : Rel P c S.get S.m a w) (hn : S.m S.n = .non) (s : Nat) :
    ∃ (h : PH) (ρ : RM), HRel h ρ (upd S.m S.n (.arr s [])) w.heap ∧ StepW c.h c.ρ c.m c.w.heap h ρ (upd S.m S.n (.arr s [])) w.heap ∧ Same c.w w ∧ (∀ k, RepV h ρ (S.get k) (a.tmps.getD k undef)) ∧ ρ S.n = some (0, 0) := by
  obtain ⟨h, ρ, H, S0, sm, r⟩ := R.ex
  obtain ⟨K, T⟩ := H.none hn s
  exact ⟨h, _, K, S0.trans T, sm, fun k => RepV.mono T.hle T.rle _ _ (r k), upd_same _ _ _⟩
end

theorem AW.owq {P : Program} {c : Ctx} {mc : MC} {Q : Exit → St → Prop} : ∀ (l : List OwP) {S : St}, owG S l (fun S' => AW P c mc Q S') → AW P c (.owq mc) Q S
  | [], S, h => fun code hc a w r => h code (by simpa [chkC] using hc) a w r
  | .t k :: l, S, h => by
    unfold owG at h
    split at h
    · rename_i s e
      have k := AW.owq l h.2
      intro code hc a w r
      refine k code hc a w ?_
      obtain ⟨hh, ρ, H, S0, sm, rr, e0⟩ := r.own0 h.1 s
      refine ⟨r.gnd, r.defers, r.size, hh, ρ, H, S0, sm, fun j => ?_⟩
      show RepV hh ρ (look _ j) _
      simp only [look]
      split
      · rename_i ej
        subst ej
        have := rr j
        rw [e] at this
        simp only [RepV] at this ⊢
        exact this.own e0
      · exact rr j
    · exact h.elim
  | .a k i :: l, S, h => by
    unfold owG at h
    split at h
    · rename_i cs e
      split at h
      · rename_i s e'
        have k := AW.owq l h.2
        intro code hc a w r
        refine k code hc a w ?_
        obtain ⟨hh, ρ, H, S0, sm, rr, e0⟩ := r.own0 h.1 s
        refine ⟨r.gnd, r.defers, r.size, hh, ρ, H, S0, sm, fun j => ?_⟩
        show RepV hh ρ (look _ j) _
        simp only [look]
        split
        · rename_i ej
          subst ej
          have := rr j
          rw [e] at this
          simp only [RepV, List.length_set] at this ⊢
          obtain ⟨vs, r1, r2, r3⟩ := this
          exact ⟨vs, r1, r2, r3.setAt e' fun v q => q.own e0⟩
        · exact rr j
      · exact h.elim
    · exact h.elim
  | .c b i :: l, S, h => by
    unfold owG at h
    split at h
    · rename_i cs e
      split at h
      · rename_i s e'
        have k := AW.owq l h.2
        intro code hc a w r
        refine k code hc a w ?_
        obtain ⟨hh, ρ, H, S0, sm, rr, e0⟩ := r.own0 h.1 s
        have hne : b ≠ S.n := fun q => by rw [q, h.1] at e; cases e
        have hb : upd S.m S.n (.arr s []) b = .box cs := by rw [upd_ne _ _ hne]; exact e
        have hρ : ρ b ≠ none := fun q => by have := (H.dom b).2 q; rw [hb] at this; cases this
        obtain ⟨p, ep⟩ := Option.ne_none_iff_exists'.1 hρ
        have hB := H.own b p ep
        rw [hb] at hB
        obtain ⟨vs, T, r1, r2, r3⟩ := hB
        obtain ⟨K, T⟩ := H.reblk (blk := .box (cs.set i (.msl s S.n 0 0))) ep (by simp) (by rw [hb]; exact Iff.rfl) ⟨vs, T, r1, by simpa using r2, r3.setAt e' fun v q => q.own e0⟩
        exact ⟨r.gnd, r.defers, r.size, hh, ρ, K, S0.trans T, sm, rr⟩
      · exact h.elim
    · exact h.elim
end Go.Abs
