/- Contracts used at literals whose slices are said to be full. -/
import Derived.Test.YtkgomampbengjaaGreatDoorAbs24
set_option linter.unusedVariables false
namespace Go.Abs
mutual
def D.erd : D → D
  | .sl _ s es => .sl false s (D.erdE es)
  | .any => .any
  | .int k n => .int k n
  | .bool b => .bool b
  | .str s => .str s
  | .sc v => .sc v
  | .rp cs o => .rp (D.erdL cs) o
  | .fn f c => .fn f c
  | .ifc t a c => .ifc t a c
def D.erdL : List D → List D
  | [] => []
  | d :: ds => d.erd :: D.erdL ds
def D.erdE : List (List D) → List (List D)
  | [] => []
  | e :: es => D.erdL e :: D.erdE es
end
theorem D.erdL_length : ∀ ds : List D, (D.erdL ds).length = ds.length
  | [] => rfl
  | d :: ds => by simp [D.erdL, D.erdL_length ds]
theorem D.erdE_length : ∀ es : List (List D), (D.erdE es).length = es.length
  | [] => rfl
  | d :: ds => by simp [D.erdE, D.erdE_length ds]
mutual
theorem RepD.erd {h : PH} : ∀ (d : D) (v : Value), RepD h d v → RepD h d.erd v
  | .sl x s es, v, r => by
    simp only [D.erd]
    simp only [RepD] at r ⊢
    obtain ⟨a, cap, r1, r2, r3, r4, r5, r6, r7⟩ := r
    refine ⟨a, cap, by rw [r1, D.erdE_length], by rw [D.erdE_length]; exact r2, (fun h => by cases h), by rw [D.erdE_length]; exact r4, (fun ha => ⟨?_, (r5 ha).2⟩), r6, RepE.erd s es _ r7⟩
    rw [(r5 ha).1]; rfl
  | .any, v, r => by simp only [D.erd]; exact r
  | .int k n, v, r => by simp only [D.erd]; exact r
  | .bool b, v, r => by simp only [D.erd]; exact r
  | .str s, v, r => by simp only [D.erd]; exact r
  | .sc u, v, r => by simp only [D.erd]; exact r
  | .rp cs o, v, r => by
    simp only [D.erd]
    simp only [RepD] at r ⊢
    obtain ⟨B, o', e1, e2⟩ := r
    exact ⟨B, o', e1, RepL.erd _ _ e2⟩
  | .fn f c, v, r => by simp only [D.erd]; exact r
  | .ifc t a c, v, r => by simp only [D.erd]; exact r
theorem RepL.erd {h : PH} : ∀ (ds : List D) (vs : List Value), RepL h ds vs → RepL h (D.erdL ds) vs
  | [], vs, r => by simp [D.erdL, RepL]
  | _ :: _, [], r => by simp [RepL] at r
  | d :: ds, v :: vs, r => by
    simp only [RepL] at r
    simp only [D.erdL, RepL]
    exact ⟨⟨r.1.1, RepD.erd d v r.1.2⟩, RepL.erd ds vs r.2⟩
theorem RepE.erd {h : PH} (s : Nat) : ∀ (es : List (List D)) (vs : List Value), RepE h s es vs → RepE h s (D.erdE es) vs
  | [], vs, r => by simp [D.erdE, RepE]
  | e :: es, vs, r => by
    simp only [RepE] at r
    simp only [D.erdE, RepE]
    exact ⟨by rw [D.erdL_length]; exact r.1, RepL.erd e vs r.2.1, RepE.erd s es _ r.2.2⟩
end
mutual
def DV.erd : DV → DV
  | .one x => .one x.erd
  | .agg cs => .agg (D.erdL cs)
  | .tup vs => .tup (DV.erds vs)
def DV.erds : List DV → List DV
  | [] => []
  | v :: vs => v.erd :: DV.erds vs
end
mutual
theorem RepDV.erd {h : PH} : ∀ {d : DV} {v : Value}, RepDV h d v → RepDV h d.erd v
  | .one x, v, r => by simp only [RepDV, DV.erd] at r ⊢; exact RepD.erd _ _ r
  | .agg cs, v, r => by
    simp only [RepDV, DV.erd] at r ⊢
    obtain ⟨vs, r1, r2, r3⟩ := r
    exact ⟨vs, r1, by rw [r2, D.erdL_length], RepL.erd _ _ r3⟩
  | .tup xs, v, r => by
    simp only [RepDV, DV.erd] at r ⊢
    obtain ⟨vs, r1, r2⟩ := r
    exact ⟨vs, r1, RepDVL.erds r2⟩
theorem RepDVL.erds {h : PH} : ∀ {ds : List DV} {vs : List Value}, RepDVL h ds vs → RepDVL h (DV.erds ds) vs
  | [], _, r => by simpa [RepDVL, DV.erds] using r
  | _ :: _, [], r => by simp [RepDVL] at r
  | d :: ds, v :: vs, r => by
    simp only [RepDVL] at r
    simp only [DV.erds, RepDVL]
    exact ⟨RepDV.erd r.1, RepDVL.erds r.2⟩
end
/-- a call handed data of which less is said -/
theorem PCall.erd {P : Program} {f : FuncId} {args args' : List DV} {v : DV} (h : PCall P f args' v) (e : DV.erds args = args') : PCall P f args v := by
  subst e
  exact ⟨h.1, fun ph w us hp hG r => h.2 ph w us hp hG (RepDVL.erds r)⟩
theorem erdE_app : ∀ (a b : List (List D)), D.erdE (a ++ b) = D.erdE a ++ D.erdE b
  | [], b => by simp [D.erdE]
  | x :: a, b => by simp [D.erdE, erdE_app a b]
theorem erdE_map {α : Type} (f : α → List D) (h : ∀ x, D.erdL (f x) = f x) : ∀ l : List α, D.erdE (l.map f) = l.map f
  | [] => by simp [D.erdE]
  | x :: l => by simp [D.erdE, h x, erdE_map f h l]
end Go.Abs
