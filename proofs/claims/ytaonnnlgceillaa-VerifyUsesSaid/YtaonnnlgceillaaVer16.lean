import Derived.Test.YtaonnnlgceillaaVer15
set_option linter.unusedVariables false
set_option linter.unusedSimpArgs false
namespace Go.Ver
open Go.Abs Go.Proofs

set_option maxRecDepth 20000 in
theorem VerifyUses_ok (c : Cod) (i : Ins) : PCall Try.prog 5 [.agg c.enc, .agg i.enc] (.one (.bool true)) := by
  refine w5 (by simp) fun o c' hN hp => ?_
  unfold mc5
  simp
  refine callK.mk awake_ok ?_
  simp
  refine callK.mk (Sized_ok c) ?_
  simp
  refine gd.mk (fun h => gd.mk (fun h2 => ?_) (fun h2 => ?_)) (fun h => ?_)
  · simp
  · refine callK.mk (Uses_ok c i) ?_
    simp
    refine callK.mk (rUses_ok c i) ?_
    simp [uses_eq]
    refine callK.mk (Sets_ok i) ?_
    simp
    refine callK.mk (rSets_ok i) ?_
    simp [sets_eq]
    refine ⟨by decide, ?_⟩
    have hlen : (rusesOf c i).length ≤ 768 := by rw [← uses_eq]; exact upTo_len c i 3
    generalize rusesOf c i = l at hlen ⊢
    refine W.loop Try.checked.mixed hp (fun j : Nat => j ≤ l.length) (fun j => [(9, .c (.d (.int .i64 j))), (7, .c (.d (.sl false 1 (encI l)))), (8, .c (.d (.sl false 1 (encI l))))]) (fun _ => []) (fun j => l.length - j) 0 [] (by simp) (by simp) fun j hj => ?_
    simp
    refine gd.mk (fun h => ?_) (fun h => ?_)
    · simp at h
      have hj : j < l.length := by omega
      simp [List.getElem?_eq_getElem hj]
      refine ⟨by decide, Abs.Next.mk (j + 1) [] (by omega) (by omega) ?_⟩
      simp
      exact wrap_i64 (by omega) (by omega)
    · simp
  · simp
end Go.Ver
