import Derived.Test.YtkgomampbengjaaGreatDoorCoV
import Derived.Test.YtkgomampbengjaaGreatDoorAbs26
/- From the claims' readings to data: coercions, types. -/
set_option linter.unusedVariables false
set_option linter.unusedSimpArgs false
namespace Go.Gr
open Go.Abs Go.Proofs

variable {n : Nat} {ds : List D}
theorem sh_ints (h : ShapeF Tryz.prog n 22 ds) : ∃ l : List Int, ds = [.sl false 1 (encI l)] :=
  shape_slice (enc := fun i : Int => [.int .i64 i]) Tryz.underlying22 (by kernel_rfl) (fun m _ x hx => shape_int Tryz.underlying3 hx) h
theorem sh_strs (h : ShapeF Tryz.prog n 24 ds) : ∃ l : List ByteArray, ds = [.sl false 1 (encS l)] :=
  shape_slice (enc := fun i : ByteArray => [.str i]) Tryz.underlying24 (by kernel_rfl) (fun m _ x hx => shape_str Tryz.underlying9 hx) h
theorem sh_need (h : ShapeF Tryz.prog n 49 ds) : ∃ x : ByteArray × Int, ds = [.str x.1, .int .i64 x.2] := by
  obtain ⟨m, _, h⟩ := shape_struct Tryz.underlying49 h
  obtain ⟨a, b, rfl, ha, h⟩ := shape_cons h
  obtain ⟨c, d, rfl, hc, h⟩ := shape_cons h
  obtain rfl := shape_nil h
  obtain ⟨s, rfl⟩ := shape_str Tryz.underlying9 ha
  obtain ⟨i, rfl⟩ := shape_int Tryz.underlying3 hc
  exact ⟨(s, i), rfl⟩
theorem sh_needs (h : ShapeF Tryz.prog n 23 ds) : ∃ l : List (ByteArray × Int), ds = [.sl false 2 (encN l)] :=
  shape_slice (enc := fun x : ByteArray × Int => [.str x.1, .int .i64 x.2]) Tryz.underlying23 (by kernel_rfl) (fun m _ x hx => sh_need hx) h
theorem sh_co : ∀ (n : Nat) (ds : List D), ShapeF Tryz.prog n 27 ds → ∃ c : Coe, ds = c.enc := by
  intro n
  induction n using Nat.strongRecOn with
  | ind n ih =>
    intro ds h
    obtain ⟨m, hm, h⟩ := shape_struct Tryz.underlying27 h
    obtain ⟨a, b, rfl, ha, h⟩ := shape_cons h
    obtain ⟨a1, b, rfl, ha1, h⟩ := shape_cons h
    obtain ⟨a2, b, rfl, ha2, h⟩ := shape_cons h
    obtain ⟨a3, b, rfl, ha3, h⟩ := shape_cons h
    obtain ⟨a4, b, rfl, ha4, h⟩ := shape_cons h
    obtain rfl := shape_nil h
    obtain ⟨t, rfl⟩ := sh_ints ha
    obtain ⟨nn, rfl⟩ := sh_needs ha1
    obtain ⟨s, rfl⟩ := sh_strs ha2
    obtain ⟨f, rfl⟩ := shape_slice (enc := Coe.enc) Tryz.underlying25 (by kernel_rfl : Tryz.prog.cellsOf 27 = 5) (fun k hk x hx => ih k (by omega) x hx) ha3
    obtain ⟨g, rfl⟩ := shape_slice (enc := Coe.enc) Tryz.underlying25 (by kernel_rfl : Tryz.prog.cellsOf 27 = 5) (fun k hk x hx => ih k (by omega) x hx) ha4
    exact ⟨⟨t, nn, s, f, g⟩, by simp [Coe.enc, Coe.encs_map]⟩
theorem sh_typ : ∀ (n : Nat) (ds : List D), ShapeF Tryz.prog n 40 ds → ∃ c : Typ, ds = c.enc := by
  intro n
  induction n using Nat.strongRecOn with
  | ind n ih =>
    intro ds h
    obtain ⟨m, hm, h⟩ := shape_struct Tryz.underlying40 h
    obtain ⟨a, b, rfl, ha, h⟩ := shape_cons h
    obtain ⟨a1, b, rfl, ha1, h⟩ := shape_cons h
    obtain ⟨a2, b, rfl, ha2, h⟩ := shape_cons h
    obtain ⟨a3, b, rfl, ha3, h⟩ := shape_cons h
    obtain rfl := shape_nil h
    obtain ⟨t, rfl⟩ := shape_int Tryz.underlying3 ha
    obtain ⟨nn, rfl⟩ := shape_str Tryz.underlying9 ha1
    obtain ⟨s, rfl⟩ := sh_strs ha2
    obtain ⟨f, rfl⟩ := shape_slice (enc := Typ.enc) Tryz.underlying38 (by kernel_rfl : Tryz.prog.cellsOf 40 = 4) (fun k hk x hx => ih k (by omega) x hx) ha3
    exact ⟨⟨t, nn, s, f⟩, by simp [Typ.enc, Typ.encs_map]⟩

def types : List TypeId := [3, 9, 22, 23, 24, 25, 27, 38, 40, 49]
theorem own : ownKnob Tryz.prog.godebug = none := by kernel_rfl
theorem laidOut : laidOutB Tryz.prog = true := by kernel_rfl
theorem typesOk : (types.all fun t => goodT Tryz.prog types t && Tryz.prog.readableRec t && decide (t < Tryz.prog.types.size)) = true := by kernel_rfl
theorem agg27 : Abs.isAgg Tryz.prog 27 = true := by kernel_rfl
theorem agg40 : Abs.isAgg Tryz.prog 40 = true := by kernel_rfl
theorem agg3 : Abs.isAgg Tryz.prog 3 = false := by kernel_rfl
theorem args1 {dvs : List DV} (h : ShapeA Tryz.prog [27] dvs) : ∃ (c : Coe), dvs = [.agg c.enc] := by
  match dvs, h with
  | a :: r, h =>
    simp only [ShapeA, agg27, dvOf] at h
    obtain ⟨⟨n, x, h1, rfl⟩, rfl⟩ := h
    obtain ⟨c, rfl⟩ := sh_co _ _ h1
    exact ⟨c, rfl⟩
theorem args2 {dvs : List DV} (h : ShapeA Tryz.prog [27, 27] dvs) : ∃ (c d : Coe), dvs = [.agg c.enc, .agg d.enc] := by
  match dvs, h with
  | a :: b :: r, h =>
    simp only [ShapeA, agg27, dvOf] at h
    obtain ⟨⟨n, x, h1, rfl⟩, ⟨m, y, h2, rfl⟩, rfl⟩ := h
    obtain ⟨c, rfl⟩ := sh_co _ _ h1
    obtain ⟨d, rfl⟩ := sh_co _ _ h2
    exact ⟨c, d, rfl⟩
  | [_], h => simp [ShapeA] at h
theorem args3 {dvs : List DV} (h : ShapeA Tryz.prog [27, 27, 27] dvs) : ∃ (c d e : Coe), dvs = [.agg c.enc, .agg d.enc, .agg e.enc] := by
  match dvs, h with
  | a :: b :: d :: r, h =>
    simp only [ShapeA, agg27, dvOf] at h
    obtain ⟨⟨n, x, h1, rfl⟩, ⟨m, y, h2, rfl⟩, ⟨k, z, h3, rfl⟩, rfl⟩ := h
    obtain ⟨c, rfl⟩ := sh_co _ _ h1
    obtain ⟨d, rfl⟩ := sh_co _ _ h2
    obtain ⟨e, rfl⟩ := sh_co _ _ h3
    exact ⟨c, d, e, rfl⟩
  | [_], h => simp [ShapeA] at h
  | [_, _], h => simp [ShapeA] at h
theorem argsT1 {dvs : List DV} (h : ShapeA Tryz.prog [40] dvs) : ∃ (c : Typ), dvs = [.agg c.enc] := by
  match dvs, h with
  | a :: r, h =>
    simp only [ShapeA, agg40, dvOf] at h
    obtain ⟨⟨n, x, h1, rfl⟩, rfl⟩ := h
    obtain ⟨c, rfl⟩ := sh_typ _ _ h1
    exact ⟨c, rfl⟩
theorem argsTTI {dvs : List DV} (h : ShapeA Tryz.prog [40, 40, 3] dvs) : ∃ (c d : Typ) (i : Int), dvs = [.agg c.enc, .agg d.enc, .one (.int .i64 i)] := by
  match dvs, h with
  | a :: b :: d :: r, h =>
    simp only [ShapeA, agg40, agg3, dvOf] at h
    obtain ⟨⟨n, x, h1, rfl⟩, ⟨m, y, h2, rfl⟩, ⟨k, z, h3, rfl⟩, rfl⟩ := h
    obtain ⟨c, rfl⟩ := sh_typ _ _ h1
    obtain ⟨d, rfl⟩ := sh_typ _ _ h2
    obtain ⟨i, rfl⟩ := shape_int Tryz.underlying3 h3
    exact ⟨c, d, i, rfl⟩
  | [_], h => simp [ShapeA] at h
  | [_, _], h => simp [ShapeA] at h
end Go.Gr
