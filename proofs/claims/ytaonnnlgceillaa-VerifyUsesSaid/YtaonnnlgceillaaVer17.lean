/- From the claims' readings to the data of the program's types. -/
import Derived.Test.YtaonnnlgceillaaVer16
import Derived.Test.YtaonnnlgceillaaAbs20
set_option linter.unusedVariables false
set_option linter.unusedSimpArgs false
namespace Go.Ver
open Go.Abs Go.Proofs

theorem u3 : Try.prog.underlying 3 = some (.int .i64) := Try.underlying3
variable {n : Nat} {ds : List D}

theorem sh_ints (h : ShapeF Try.prog n 22 ds) : ∃ l : List Int, ds = [.sl false 1 (encI l)] :=
  shape_slice (enc := fun i : Int => [.int .i64 i]) Try.underlying22 (by kernel_rfl) (fun m _ x hx => shape_int Try.underlying3 hx) h
theorem sh_strs (h : ShapeF Try.prog n 23 ds) : ∃ l : List ByteArray, ds = [.sl false 1 (encS l)] :=
  shape_slice (enc := fun i : ByteArray => [.str i]) Try.underlying23 (by kernel_rfl) (fun m _ x hx => shape_str Try.underlying9 hx) h
theorem sh_shapes (h : ShapeF Try.prog n 24 ds) : ∃ l : List (List ByteArray), ds = [.sl false 1 (l.map fun l => [.sl false 1 (encS l)])] :=
  shape_slice (enc := fun l : List ByteArray => [.sl false 1 (encS l)]) Try.underlying24 (by kernel_rfl) (fun m _ x hx => sh_strs hx) h
theorem sh_need (h : ShapeF Try.prog n 66 ds) : ∃ x : ByteArray × Int, ds = [.str x.1, .int .i64 x.2] := by
  obtain ⟨m, _, h⟩ := shape_struct Try.underlying66 h
  obtain ⟨a, b, rfl, ha, h⟩ := shape_cons h
  obtain ⟨c, d, rfl, hc, h⟩ := shape_cons h
  obtain rfl := shape_nil h
  obtain ⟨s, rfl⟩ := shape_str Try.underlying9 ha
  obtain ⟨i, rfl⟩ := shape_int Try.underlying3 hc
  exact ⟨(s, i), rfl⟩
theorem sh_needs (h : ShapeF Try.prog n 41 ds) : ∃ l : List (ByteArray × Int), ds = [.sl false 2 (encN l)] :=
  shape_slice (enc := fun x : ByteArray × Int => [.str x.1, .int .i64 x.2]) Try.underlying41 (by kernel_rfl) (fun m _ x hx => sh_need hx) h
theorem sh_ins (h : ShapeF Try.prog n 32 ds) : ∃ i : Ins, ds = i.enc := by
  obtain ⟨m, _, h⟩ := shape_struct Try.underlying32 h
  obtain ⟨a, b, rfl, ha, h⟩ := shape_cons h
  obtain ⟨a1, b, rfl, ha1, h⟩ := shape_cons h
  obtain ⟨a2, b, rfl, ha2, h⟩ := shape_cons h
  obtain ⟨a3, b, rfl, ha3, h⟩ := shape_cons h
  obtain rfl := shape_nil h
  obtain ⟨i, rfl⟩ := shape_int Try.underlying3 ha
  obtain ⟨i1, rfl⟩ := shape_int Try.underlying3 ha1
  obtain ⟨i2, rfl⟩ := shape_int Try.underlying3 ha2
  obtain ⟨i3, rfl⟩ := shape_int Try.underlying3 ha3
  exact ⟨⟨i, i1, i2, i3⟩, rfl⟩
theorem sh_inss (h : ShapeF Try.prog n 33 ds) : ∃ l : List Ins, ds = [.sl false 4 (l.map Ins.enc)] :=
  shape_slice (enc := Ins.enc) Try.underlying33 (by kernel_rfl) (fun m _ x hx => sh_ins hx) h
theorem sh_proc (h : ShapeF Try.prog n 35 ds) : ∃ i : Prc, ds = i.enc := by
  obtain ⟨m, _, h⟩ := shape_struct Try.underlying35 h
  obtain ⟨a, b, rfl, ha, h⟩ := shape_cons h
  obtain ⟨a1, b, rfl, ha1, h⟩ := shape_cons h
  obtain ⟨a2, b, rfl, ha2, h⟩ := shape_cons h
  obtain rfl := shape_nil h
  obtain ⟨i, rfl⟩ := shape_int Try.underlying3 ha
  obtain ⟨i1, rfl⟩ := shape_int Try.underlying3 ha1
  obtain ⟨l, rfl⟩ := sh_inss ha2
  exact ⟨⟨i, i1, l⟩, rfl⟩
theorem sh_procs (h : ShapeF Try.prog n 26 ds) : ∃ l : List Prc, ds = [.sl false 3 (l.map Prc.enc)] :=
  shape_slice (enc := Prc.enc) Try.underlying26 (by kernel_rfl) (fun m _ x hx => sh_proc hx) h
theorem sh_co : ∀ (n : Nat) (ds : List D), ShapeF Try.prog n 43 ds → ∃ c : Coe, ds = c.enc := by
  intro n
  induction n using Nat.strongRecOn with
  | ind n ih =>
    intro ds h
    obtain ⟨m, hm, h⟩ := shape_struct Try.underlying43 h
    obtain ⟨a, b, rfl, ha, h⟩ := shape_cons h
    obtain ⟨a1, b, rfl, ha1, h⟩ := shape_cons h
    obtain ⟨a2, b, rfl, ha2, h⟩ := shape_cons h
    obtain ⟨a3, b, rfl, ha3, h⟩ := shape_cons h
    obtain ⟨a4, b, rfl, ha4, h⟩ := shape_cons h
    obtain rfl := shape_nil h
    obtain ⟨t, rfl⟩ := sh_ints ha
    obtain ⟨nn, rfl⟩ := sh_needs ha1
    obtain ⟨s, rfl⟩ := sh_strs ha2
    obtain ⟨f, rfl⟩ := shape_slice (enc := Coe.enc) Try.underlying25 (by kernel_rfl : Try.prog.cellsOf 43 = 5) (fun k hk x hx => ih k (by omega) x hx) ha3
    obtain ⟨g, rfl⟩ := shape_slice (enc := Coe.enc) Try.underlying25 (by kernel_rfl : Try.prog.cellsOf 43 = 5) (fun k hk x hx => ih k (by omega) x hx) ha4
    exact ⟨⟨t, nn, s, f, g⟩, by simp [Coe.enc, Coe.encs_map]⟩
theorem sh_cos (h : ShapeF Try.prog n 25 ds) : ∃ l : List Coe, ds = [.sl false 5 (l.map Coe.enc)] :=
  shape_slice (enc := Coe.enc) Try.underlying25 (by kernel_rfl) (fun m _ x hx => sh_co m x hx) h
theorem sh_code (h : ShapeF Try.prog n 28 ds) : ∃ c : Cod, ds = c.enc := by
  obtain ⟨m, _, h⟩ := shape_struct Try.underlying28 h
  obtain ⟨a, b, rfl, ha, h⟩ := shape_cons h
  obtain ⟨a1, b, rfl, ha1, h⟩ := shape_cons h
  obtain ⟨a2, b, rfl, ha2, h⟩ := shape_cons h
  obtain ⟨a3, b, rfl, ha3, h⟩ := shape_cons h
  obtain ⟨a4, b, rfl, ha4, h⟩ := shape_cons h
  obtain ⟨a5, b, rfl, ha5, h⟩ := shape_cons h
  obtain ⟨a6, b, rfl, ha6, h⟩ := shape_cons h
  obtain rfl := shape_nil h
  obtain ⟨i, rfl⟩ := sh_ints ha
  obtain ⟨s, rfl⟩ := sh_strs ha1
  obtain ⟨sh, rfl⟩ := sh_shapes ha2
  obtain ⟨co, rfl⟩ := sh_cos ha3
  obtain ⟨p, rfl⟩ := sh_procs ha4
  obtain ⟨mm, rfl⟩ := shape_int Try.underlying3 ha5
  obtain ⟨g, rfl⟩ := shape_bool Try.underlying4 ha6
  exact ⟨⟨i, s, sh, co, p, mm, g⟩, rfl⟩

def types : List TypeId := [3, 4, 9, 22, 23, 24, 25, 26, 28, 32, 33, 35, 41, 43, 66]
theorem own : ownKnob Try.prog.godebug = none := by kernel_rfl
theorem laidOut : laidOutB Try.prog = true := by kernel_rfl
theorem typesOk : (types.all fun t => goodT Try.prog types t && Try.prog.readableRec t && decide (t < Try.prog.types.size)) = true := by kernel_rfl
theorem agg28 : Abs.isAgg Try.prog 28 = true := by kernel_rfl
theorem agg32 : Abs.isAgg Try.prog 32 = true := by kernel_rfl
theorem agg3 : Abs.isAgg Try.prog 3 = false := by kernel_rfl
theorem agg9 : Abs.isAgg Try.prog 9 = false := by kernel_rfl
theorem args28_32 {dvs : List DV} (h : ShapeA Try.prog [28, 32] dvs) : ∃ (c : Cod) (i : Ins), dvs = [.agg c.enc, .agg i.enc] := by
  match dvs, h with
  | a :: b :: r, h =>
    simp only [ShapeA, agg28, agg32, dvOf] at h
    obtain ⟨⟨n, x, h1, rfl⟩, ⟨m, y, h2, rfl⟩, rfl⟩ := h
    obtain ⟨c, rfl⟩ := sh_code h1
    obtain ⟨i, rfl⟩ := sh_ins h2
    exact ⟨c, i, rfl⟩
  | [_], h => simp [ShapeA] at h
theorem args28 {dvs : List DV} (h : ShapeA Try.prog [28] dvs) : ∃ (c : Cod), dvs = [.agg c.enc] := by
  match dvs, h with
  | a :: r, h =>
    simp only [ShapeA, agg28, agg32, dvOf] at h
    obtain ⟨⟨n, x, h1, rfl⟩, rfl⟩ := h
    obtain ⟨c, rfl⟩ := sh_code h1
    exact ⟨c, rfl⟩
theorem args28_3_9 {dvs : List DV} (h : ShapeA Try.prog [28, 3, 9] dvs) : ∃ (c : Cod) (i : Int) (s : ByteArray), dvs = [.agg c.enc, .one (.int .i64 i), .one (.str s)] := by
  match dvs, h with
  | a :: b :: d :: r, h =>
    simp only [ShapeA, agg28, agg3, agg9, dvOf] at h
    obtain ⟨⟨n, x, h1, rfl⟩, ⟨m, y, h2, rfl⟩, ⟨k, z, h3, rfl⟩, rfl⟩ := h
    obtain ⟨c, rfl⟩ := sh_code h1
    obtain ⟨i, rfl⟩ := shape_int Try.underlying3 h2
    obtain ⟨s, rfl⟩ := shape_str Try.underlying9 h3
    exact ⟨c, i, s, rfl⟩
  | [_], h => simp [ShapeA] at h
  | [_, _], h => simp [ShapeA] at h
end Go.Ver
