/- Texts of ours, joined and written short by a program of ours. -/
import Derived.Test.YtnefbdgcccgodaaGreatJ06
set_option linter.unusedVariables false
set_option linter.unusedSimpArgs false
namespace Go.Abs
def AC.erd : AC -> AC
 | .d x => .d x.erd
 | c => c
mutual
def AV.erd : AV -> AV
 | .c x => .c x.erd
 | .ag cs => .ag (cs.map AC.erd)
 | .tup vs => .tup (AV.erds vs)
def AV.erds : List AV -> List AV
 | [] => []
 | v :: vs => AV.erd v :: AV.erds vs
end
theorem RepC.erd {h : PH} {ρ : RM} : ∀ {x : AC} {v : Value}, RepC h ρ x v -> RepC h ρ x.erd v
 | .d x, v, r => by simp only [RepC, AC.erd] at r ⊢; exact RepD.erd _ _ r
 | .ptr _ _, _, r => r
 | .ept _ _ _ _, _, r => r
 | .msl _ _ _ _, _, r => r
 | .map _, _, r => r
 | .fn _ _, _, r => r
 | .op _, _, r => r
theorem zad.erd {h : PH} {ρ : RM} : ∀ {cs : List AC} {vs : List Value}, zad h ρ cs vs -> zad h ρ (cs.map AC.erd) vs
 | [], vs, r => by simp [zad]
 | _ :: _, [], r => by simp [zad] at r
 | c :: cs, v :: vs, r => by
  simp only [zad, List.map_cons] at r ⊢
  exact ⟨⟨r.1.1, RepC.erd r.1.2⟩, zad.erd r.2⟩
mutual
theorem RepV.erd {h : PH} {ρ : RM} : ∀ {x : AV} {v : Value}, RepV h ρ x v -> RepV h ρ x.erd v
 | .c x, v, r => by simp only [RepV, AV.erd] at r ⊢; exact RepC.erd r
 | .ag cs, v, r => by
  simp only [RepV, AV.erd] at r ⊢
  obtain ⟨vs, h1, h2, h3⟩ := r
  exact ⟨vs, h1, by simpa using h2, zad.erd h3⟩
 | .tup xs, v, r => by
  simp only [RepV, AV.erd] at r ⊢
  obtain ⟨vs, h1, h2⟩ := r
  exact ⟨vs, h1, zar.erds h2⟩
theorem zar.erds {h : PH} {ρ : RM} : ∀ {xs : List AV} {vs : List Value}, zar h ρ xs vs -> zar h ρ (AV.erds xs) vs
 | [], vs, r => by simpa [zar, AV.erds] using r
 | _ :: _, [], r => by simp [zar] at r
 | x :: xs, v :: vs, r => by
  simp only [zar, AV.erds] at r ⊢
  exact ⟨RepV.erd r.1, zar.erds r.2⟩
end
theorem EndM.mkE {v : AV} {bs' : List Blk} {ts : List (Nat × Nat)} {vs : List AV} {S : St} (l qs : List Nat) (h : l.Nodup /\ (one? vs).erd = v.ren (fOf l) /\ finB S l l bs' /\ pinB S l l qs ts bs') : EndM v bs' ts vs S :=
 ⟨l, qs, h.1, (fun _ _ _ r => h.2.1 ▸ RepV.erd r), h.2.2⟩
end Go.Abs
