/- Texts of ours, joined and written short by a program of ours. -/
import Derived.Test.YtnefbdgcccgodaaGreatCoeF
import Derived.Test.YtnefbdgcccgodaaGreatJ20
import Derived.Test.YtnefbdgcccgodaaGreatSrt
import Derived.Test.YtnefbdgcccgodaaGreatLayI
set_option linter.unusedVariables false
set_option linter.unusedSimpArgs false
namespace Go.Gr
open Go.Abs Go.Proofs Go.RowKit Go.Maps Go.Sort Go.Shelf
theorem noTs {ts : List (Nat × Nat)} (h : ts.length = ([] : List Blk).length) : ts = [] := by simpa using h
theorem zvs (m : Nat) : AnyZI.SortsIn Tryz.prog Tryz.sorted40_ren Fence.wide m :=
 ⟨fun blk off cap ss W hH hblk hsz => callsIn_wide.2 (AnyM.slices_Sort_int Tryz.sort65 blk off cap ss W hH hblk hsz),
  fun p cap W => callsIn_wide.2 (AnyM.slices_Sort_int_none Tryz.sort65 p cap W)⟩
set_option maxHeartbeats 1000000 in
theorem zmM {H : Type} (Bm b nn : Nat) (D0 : DataW H) (R : Value -> Option (DataW H × List MemPlace)) (w : World) (hB : Bm < w.heap.size) (hm : w.cell? ⟨Bm, 0, none⟩ = some (.map (some b))) (hown : w.ownsMap Tryz.prog 3 R b nn D0) (hmax : Maps.size D0 <= maxLen) (hbytes : Maps.size D0 * 8 <= 140737488355328) :
  Calls Tryz.prog 40 #[.func (.func 66) #[] #[.pointer (some ⟨Bm, 0, none⟩)]] w fun e w' => ∃ (v : Value) (ss : List Int), e = .returned v /\ ss.Perm (intKeys D0) /\
   w'.ownsRow w.heap.size 3 1 v ss.length ((ss.mergeSort (fun x y => decide (x <= y))).map encZ) /\ (v = .slice none 0 0 ↔ ss = []) /\ Below w.heap.size w w' := by
 refine (callsIn_wide (n := 5)).1 ?_
 have hseq : SeqGives Fence.wide 2 Tryz.prog 66 #[.pointer (some ⟨Bm, 0, none⟩)] encZ (fun ss => ss.Perm (intKeys D0)) (Maps.size D0) w :=
  AnyZI.keys_gives (ρ := Tryz.keys41_ren) { Tryz.keys41 with } Fence.wide _ trivial rfl (by omega) Bm b nn D0 _ hB hm hown
 exact AnyZI.sorted_in Tryz.sorted40 Fence.wide 5 trivial trivial trivial trivial rfl (by omega) (zvs _) (enters_of Tryz.func65 (by kernel_rfl) rfl) 66 #[.pointer (some ⟨Bm, 0, none⟩)] trivial (enters_of Tryz.func66 (by kernel_rfl) rfl) _ _ hmax hbytes _ hseq
def mapL (l : List Int) : List (D × AV) := l.map fun x => (.int .i64 x, .c (.d (.bool true)))
@[simp] theorem zw1 (f : Nat -> Nat) (l : List Int) : (mapL l).map (fun e => (e.1, AV.ren f e.2)) = mapL l := by simp [mapL]
theorem zdl {n : Nat} {l : List Int} {a : D} {b : AV} (h : (a, b) ∈ mapL l) : AV.lt n b = true := by
 simp only [mapL, List.mem_map] at h
 obtain ⟨x, _, e⟩ := h
 cases e
 simp
theorem zjC {f : Nat -> Bool} {l : List Int} (a : D) (b : AV) (h : (a, b) ∈ mapL l) : AV.lv f b = true := by
 simp only [mapL, List.mem_map] at h
 obtain ⟨x, _, e⟩ := h
 cases e
 simp
@[simp] theorem znw (l : List Int) : (mapL l).map (·.1) = l.map (.int .i64) := by simp [mapL]
theorem ztj (l : List Int) : MCall Pg F.maps_Keys_map_int_bool_int_bool [.c (.map 0)] [.map (mapL l)] (.c (.fn (.func 66) [.ptr 1 0])) [.map (mapL l), .box [.map 0]] := by
 refine zc0 ⟨by simp, by simp, by simp, by simp, by simp, by simp [live], by simp [live]; exact zjC⟩ fun ts hts ok hb c hN hp => ?_
 obtain ⟨t, rfl⟩ := zaR hts
 unfold zbI
 simp
 exact EndM.mk [0, 2] [1] (by simp)
theorem ztk {h : PH} {ρ : RM} {es : List (D × AV)} {w : World} {g : FuncId} {argsC : List Value} (K : HRel h ρ (hpOf [.map es, .box [.map 0]]) w.heap) (r : zar h ρ [.c (.fn (.func g) [.ptr 1 0])] argsC) :
  ∃ (p0 : Nat × Nat) (B : Nat), argsC = [.func (.func g) #[] #[.pointer (some ⟨B, 0, none⟩)]] /\ B < w.heap.size /\ w.cell? ⟨B, 0, none⟩ = some (.map (some p0.1)) /\ zaC h ρ p0 (.map es) w.heap := by
 match argsC, r with
 | [v], r =>
  simp only [zar, RepV, RepC, and_true] at r
  obtain ⟨vs, e1, e2, e3⟩ := r
  match vs, e2, e3 with
  | [u], _, e3 =>
   simp only [zad, RepC, and_true] at e3
   obtain ⟨_, p1, q1, q2⟩ := e3
   have hb := K.own 1 p1 q1
   simp [hpOf, zaC] at hb
   obtain ⟨us, ⟨T, b1⟩, b2, b3⟩ := hb
   match us, b2, b3 with
   | [x], _, b3 =>
    simp only [zad, RepC, and_true] at b3
    obtain ⟨_, p0, c1, c2⟩ := b3
    have h0 := K.own 0 p0 c1
    refine ⟨p0, p1.1, by rw [e1, q2], ?_, ?_, by simpa [hpOf] using h0⟩
    ·rcases Nat.lt_or_ge p1.1 w.heap.size with g | g
     ·exact g
     ·rw [Array.getElem?_eq_none g] at b1; cases b1
    ·simp [World.cell?, b1, c2]
theorem zql (l : List Int) (hn : l.Nodup) (hl : l.length <= 1073741824) :
  MCall Pg F.slices_Sorted_int [.c (.fn (.func 66) [.ptr 1 0])] [.map (mapL l), .box [.map 0]] (.c (.d (.sl false 1 (encI (zey l))))) [.map (mapL l), .box [.map 0]] := by
 have hlen : (zey l).length = l.length := by simp [zey]
 have hm : (140737488355328 : Nat) <= maxLen := by decide
 have e : encI (zey l) = ((zey l).map (D.int .i64)).map fun d => [d] := by simp [encI]
 rw [e]
 refine MCall.row (by decide +kernel) (zfN (by simp)) (by simp [live]; exact zjC) (by simp [hlen, zak]; omega) fun h ρ w argsC K r => ?_
 obtain ⟨p0, B, rfl, hB, hc, hmap⟩ := ztk K r
 obtain ⟨D0, o1, o2, o3⟩ := zvW (P := Tryz.prog) (k := 3) Tryz.underlying3 (znw l) hn hl hmap
 refine (zmM B p0.1 _ D0 zdk w hB hc o1 (by omega) (by omega)).mono fun e w' q => ?_
 obtain ⟨v, ss, q1, q2, q3, _, q5⟩ := q
 have q6 : ss.Perm l := q2.trans o3
 have q7 : ss.mergeSort (fun x y => decide (x <= y)) = l.mergeSort fun x y => decide (x <= y) := mergeSort_of_perm_i q6
 obtain ⟨ms, ck, _, g2, _⟩ := hmap
 obtain ⟨_, hsz⟩ := zgu (znw l) g2
 have hss : ss.length = l.length := q6.length_eq
 refine ⟨v, _, 3, q1, fun h => zmZ fun x hx => ?_, by simpa [hss, hlen, q7, zey] using q3, q5⟩
 exact hsz x ((List.mergeSort_perm _ _).mem_iff.1 hx)
theorem zkh {k : Int} : ∀ {l : List Int} (i : Nat), k ∉ l -> mfind 0 (.int .i64 k) (mapL l) i = some none
 | [], i, _ => rfl
 | x :: l, i, h => by
  simp only [List.mem_cons, not_or] at h
  have ih := zkh (l := l) (i + 1) h.2
  simp only [mapL] at ih
  simp [mapL, h.1, ih]
theorem zl6 {k : Int} : ∀ {l : List Int} (i : Nat), k ∈ l -> ∃ j, j < l.length /\ l[j]? = some k /\ mfind 0 (.int .i64 k) (mapL l) i = some (some (i + j, .c (.d (.bool true))))
 | [], i, h => by simp at h
 | x :: l, i, h => by
  by_cases e : k = x
  ·exact ⟨0, by simp, by simp [e], by simp [mapL, e]⟩
  ·have h' : k ∈ l := (List.mem_cons.1 h).resolve_left e
   obtain ⟨j, h1, h2, h3⟩ := zl6 (l := l) (i + 1) h'
   simp only [mapL] at h3
   refine ⟨j + 1, by simp; omega, by simpa using h2, ?_⟩
   simp [mapL, e, h3]; omega
theorem ztl {l : List Int} {j : Nat} {k : Int} (h : l[j]? = some k) : (mapL l).set j (.int .i64 k, .c (.d (.bool true))) = mapL l := by
 unfold mapL
 have : (l.map fun x => ((D.int .i64 x, AV.c (AC.d (D.bool true))) : D × AV)).set j (.int .i64 k, .c (.d (.bool true))) = (l.set j k).map fun x => (D.int .i64 x, AV.c (AC.d (D.bool true))) := by rw [List.map_set]
 rw [this]
 congr 1
 refine List.ext_getElem? fun i => ?_
 rw [List.getElem?_set]
 split
 ·rename_i e
  subst e
  split
  ·rw [h]
  ·rename_i q
   rw [List.getElem?_eq_none (by omega)]
 ·rfl
theorem ztm {l : List Int} {k : Int} : (∃ j w, mfind 0 (.int .i64 k) (mapL l) 0 = some (some (j, w)) /\ (mapL l).set j (.int .i64 k, .c (.d (.bool true))) = mapL (insL l k)) \/ (mfind 0 (.int .i64 k) (mapL l) 0 = some none /\ mapL l ++ [(.int .i64 k, .c (.d (.bool true)))] = mapL (insL l k)) := by
 by_cases h : k ∈ l
 ·obtain ⟨j, h1, h2, h3⟩ := zl6 0 h
  refine .inl ⟨j, _, by simpa using h3, ?_⟩
  rw [ztl h2]; unfold insL; rw [if_pos h]
 ·exact .inr ⟨zkh 0 h, by unfold insL; rw [if_neg h]; simp [mapL]⟩
theorem zrK {l : List Int} (h : l.Nodup) : zey l = srtI l := by
 have h1 := List.pairwise_mergeSort (le := fun x y : Int => decide (x <= y)) (fun a b c h1 h2 => by simp only [decide_eq_true_eq] at *; omega) (fun a b => by simp only [Bool.or_eq_true, decide_eq_true_eq]; omega) l
 have hp : (zey l).Perm l := List.mergeSort_perm _ _
 have h2 : (zey l).Pairwise (· < ·) := by
  refine (h1.and (hp.nodup_iff.2 h)).imp fun {a b} ⟨p, q⟩ => ?_
  simp only [decide_eq_true_eq] at p
  omega
 exact List.Perm.eq_of_pairwise (le := (· < ·)) (fun a b _ _ p q => by omega) h2 (zgQ l h) (hp.trans (zee l).symm)
end Go.Gr
namespace Go.Gr
open Go.Abs Go.Proofs
@[simp] theorem Cor.get7 (c : Cor) (h : 7 < c.enc.length) : c.enc[7] = .sl false 8 (c.kids.map Cor.enc) := by simp only [c.enc_eq]; rfl
theorem zpK : ∀ {l : List Cor} {c : Cor}, c ∈ l -> csz c <= cszs l
 | d :: l, c, h => by
  rw [cszs]
  rcases List.mem_cons.1 h with e | h
  ·rw [e]; omega
  ·have := zpK h; omega
theorem zed (c : Cor) : csz c = 1 + cszs c.kids := by cases c; rw [csz]; try rfl
theorem ze9 : ∀ l : List Cor, l.length <= cszs l
 | [] => by simp
 | c :: l => by
  have := ze9 l
  have := zed c
  rw [cszs, List.length_cons]; omega
def zfx (c : Cor) (b : Int) : List Int := if c.kind = 4 /\ c.n < b then [c.n] else []
theorem zuQ (c : Cor) (b : Int) : rawV c b = zfx c b ++ zbh c.kids b := by cases c; rw [rawV]; try rfl
theorem zqJ {l : List Cor} {j : Nat} (h : j < l.length) (b : Int) : zbh (l.drop j) b = rawV l[j] b ++ zbh (l.drop (j + 1)) b := by
 rw [List.drop_eq_getElem_cons h, zbh]
def zkK (c : Cor) : Prop := ∀ (b : Int) (l : List Int), MCall Pg F.clos_gather [.ag (c.enc.map .d), .c (.d (.int .i64 b)), .c (.map 0)] [.map (mapL l)] (.tup []) [.map (mapL (addL l (rawV c b)))]
set_option maxRecDepth 20000 in
theorem zqK (c : Cor) (hc : csz c <= 1000000000) (ih : ∀ x, x ∈ c.kids -> zkK x) : zkK c := fun b l => by
 refine zlp ⟨by simp, by simp, by simp, by simp, by simp, by simp [live], by simp [live]; exact zjC⟩ fun ts hts ok hb cx hN hp => ?_
 obtain ⟨t0, rfl⟩ := zaR hts
 have hk := ze9 c.kids
 have hs := zed c
 rw [zuQ, zn3]
 obtain ⟨R, hR⟩ : ∃ R, addL (addL l (zfx c b)) (zbh c.kids b) = R := ⟨_, rfl⟩
 rw [hR]
 have key : ∀ (K : List Int), addL K (zbh c.kids b) = R -> ∀ (S : St) (l0 : List Nat), Match l0 S [(23, .c (.d (.int .i64 (0 : Nat)))), (22, .c (.d (.int .i64 c.kids.length))), (21, .c (.d (.sl false 8 (c.kids.map Cor.enc)))), (1, .c (.d (.int .i64 b))), (2, .c (.map 0))] [.map (mapL K), .pin t0 0] -> lw_ Pg cx lp_clos_gather_0 (blockQ 0 (endM [] (.tup []) [.map (mapL R)] [t0])) ⟨⟩ S := fun K hK S l0 h0 => by
  refine W.loop Pg_mixed hp (fun Y : Nat × List Int => Y.1 <= c.kids.length /\ addL Y.2 (zbh (c.kids.drop Y.1) b) = R) (fun Y => [(23, .c (.d (.int .i64 Y.1))), (22, .c (.d (.int .i64 c.kids.length))), (21, .c (.d (.sl false 8 (c.kids.map Cor.enc)))), (1, .c (.d (.int .i64 b))), (2, .c (.map 0))]) (fun Y => [.map (mapL Y.2), .pin t0 0]) (fun Y => c.kids.length - Y.1) (0, K) l0 ⟨by simp, by simpa using hK⟩ h0 fun ⟨j, M⟩ ⟨i1, i2⟩ => ?_
  unfold lp_clos_gather_0
  simp only at i1 i2
  simp
  refine gd.mk (fun h => ?_) (fun h => ?_)
  ·have hj : j < c.kids.length := by simpa using h
   rw [zqJ hj, zn3] at i2
   have hc := ih _ (List.getElem_mem hj) b M
   have hw := wrap_i64 (n := (j : Int) + 1) (by omega) (by omega)
   obtain ⟨d, hd⟩ : ∃ d, c.kids[j] = d := ⟨_, rfl⟩
   rw [hd] at i2 hc
   simp [hj, hd]
   refine zaa.mk [0] hc (by simp; exact fun a b h => zdl h) ?_
   simp
   refine Abs.Next.mk (j + 1, addL M (rawV d b)) [0, 1] ⟨by simp only; omega, i2⟩ (by simp only; omega) ?_
   simp [hw]
   exact fun a b h => zdl h
  ·have hj : j = c.kids.length := by simp at h; omega
   subst hj
   rw [List.drop_length, zbh, ztK] at i2
   subst i2
   simp
   exact EndM.mk [0] [1] (by simp)
 unfold zf8
 simp
 by_cases c4 : c.kind = 4
 ·by_cases cb : c.n < b
  ·have e : zfx c b = [c.n] := by unfold zfx; rw [if_pos ⟨c4, cb⟩]
   rw [e] at hR
   have ei : addL l [c.n] = insL l c.n := rfl
   rw [ei] at hR
   simp [c4, cb]
   rcases ztm (l := l) (k := c.n) with ⟨i, w, m1, m2⟩ | ⟨m1, m2⟩ <;> simp [m1, m2]
   ·exact key _ hR _ [0, 1] (by simp; exact fun a b h => zdl h)
   ·exact key _ hR _ [0, 1] (by simp; exact fun a b h => zdl h)
  ·have e : zfx c b = [] := by unfold zfx; rw [if_neg (fun z => cb z.2)]
   rw [e] at hR
   simp [c4, cb]
   exact key _ hR _ [0, 1] (by simp; exact fun a b h => zdl h)
 ·have e : zfx c b = [] := by unfold zfx; rw [if_neg (fun z => c4 z.1)]
  rw [e] at hR
  simp [c4]
  exact key _ hR _ [0, 1] (by simp; exact fun a b h => zdl h)
mutual
theorem zmo : ∀ c : Cor, csz c <= 1000000000 -> zkK c
 | .mk k n t is ns ts cs ks, h => zqK _ h fun x hx => zkL ks x hx (by have := zed (.mk k n t is ns ts cs ks); have := zpK hx; simp only [Cor.kids] at *; omega)
theorem zkL : ∀ (l : List Cor) (x : Cor), x ∈ l -> csz x <= 1000000000 -> zkK x
 | [], x, hx, h => by cases hx
 | c :: l, x, hx, h => by
  rcases List.mem_cons.1 hx with e | hx
  ·rw [e] at h ⊢; exact zmo c h
  ·exact zkL l x hx h
end
theorem zr9 {x : Int} {l : List Int} {i : Nat} (h : i < l.length) : idxI x (l.drop i) i = if x = l[i] then (i : Int) else idxI x (l.drop (i + 1)) (i + 1) := by
 rw [List.drop_eq_getElem_cons h, idxI]
theorem ztB (l : List Int) (x : Int) (hl : l.length <= 1000000000) : PCall Pg F.slices_Index_int_int [.one (.sl false 1 (encI l)), .one (.int .i64 x)] (.one (.int .i64 (idxI x l 0))) := by
 refine zfL (by simp) fun o c hN hp => ?_
 obtain ⟨R, hR⟩ : ∃ R, idxI x l 0 = R := ⟨_, rfl⟩
 rw [hR]
 unfold zcZ
 simp [encI]
 refine W.loop Pg_mixed hp (fun j : Nat => j <= l.length /\ idxI x (l.drop j) j = R) (fun j => [(8, .c (.d (.int .i64 j))), (7, .c (.d (.int .i64 l.length))), (1, .c (.d (.int .i64 x))), (0, .c (.d (.sl false 1 (encI l))))]) (fun _ => []) (fun j => l.length - j) 0 [] ⟨by simp, by simpa using hR⟩ (by simp [encI]) fun j ⟨i1, i2⟩ => ?_
 unfold lp_slices_Index_int_int_0
 simp
 refine gd.mk (fun h => ?_) (fun h => ?_)
 ·have hj : j < l.length := by simpa using h
  rw [zr9 hj] at i2
  have hw := wrap_i64 (n := (j : Int) + 1) (by omega) (by omega)
  obtain ⟨d, hd⟩ : ∃ d, l[j] = d := ⟨_, rfl⟩
  rw [hd] at i2
  by_cases e : x = d
  ·rw [if_pos e] at i2
   simp [encI, hj, hd, e, i2]
  ·rw [if_neg e] at i2
   simp [encI, hj, hd, e]
   refine Abs.Next.mk (j + 1) [] ⟨by omega, i2⟩ (by omega) ?_
   simp [hw, encI]
 ·have hj : j = l.length := by simp at h; omega
  subst hj
  rw [List.drop_length, idxI] at i2
  subst i2
  simp
@[simp] theorem Todo.enc_length (t : Todo) : t.enc.length = 11 := by simp [Todo.enc]
theorem Todo.enc_eq (t : Todo) : t.enc = [.str t.name, .int .i64 t.body.kind, .int .i64 t.body.n, .str t.body.text, .sl false 1 (encI t.body.ints), .sl false 1 (encS t.body.names), .sl false 4 (t.body.types.map Typ.enc), .sl false 5 (t.body.cos.map Coe.enc), .sl false 8 (t.body.kids.map Cor.enc), .sl t.none 1 (encI t.caps), .int .i64 t.deep] := by
 unfold Todo.enc; rw [t.body.enc_eq]; try rfl
@[simp] theorem Todo.get0 (t : Todo) (h : 0 < t.enc.length) : t.enc[0] = .str t.name := by simp only [t.enc_eq]; rfl
@[simp] theorem Todo.get9 (t : Todo) (h : 9 < t.enc.length) : t.enc[9] = .sl t.none 1 (encI t.caps) := by simp only [t.enc_eq]; rfl
@[simp] theorem Todo.get10 (t : Todo) (h : 10 < t.enc.length) : t.enc[10] = .int .i64 t.deep := by simp only [t.enc_eq]; rfl
@[simp] theorem Todo.cut_body (t : Todo) : cut (t.enc.map AC.d) 1 8 = t.body.enc.map AC.d := by rw [t.enc_eq, t.body.enc_eq]; try rfl
theorem zmp (t : Todo) (n : Int) (h : 0 <= t.deep /\ t.deep <= 1000000000) (hn : 0 <= n /\ n <= 2000000000) (hl : t.caps.length <= 1000000000) : PCall Pg F.clos_todo_number [.agg t.enc, .one (.int .i64 n)] (.one (.int .i64 (numT t n))) := by
 refine zhG (by simp) fun o c hN hp => ?_
 have hi := PCall.erd (args := [.one (.sl t.none 1 (encI t.caps)), .one (.int .i64 n)]) (ztB t.caps n hl) (by simp [DV.erds, DV.erd, D.erd, zhC])
 unfold numT
 unfold zdL
 by_cases q : t.deep <= n
 ·have hw := wrap_i64 (n := n - t.deep) (by omega) (by omega)
  have hw2 := wrap_i64 (n := n - t.deep + t.caps.length) (by omega) (by omega)
  rw [if_pos q]
  simp [q, hw, hw2, encI]
 ·rw [if_neg q]
  simp [q]
  refine zac.mk hi ?_
  simp
theorem ztC (l : List Cor) (hl : l.length <= 1000000000) : MCall Pg F.slices_Clone_api_Core_api_Core [.c (.d (.sl false 8 (l.map Cor.enc)))] [] (.c (.msl 8 0 0 l.length)) [.arr 8 ((l.map Cor.enc).map (·.map .d))] := by
 refine zc5 ⟨by simp, by simp, by simp, by simp, by simp, by simp [live], by simp⟩ fun ts hts ok hb c hN hp => ?_
 obtain rfl := noTs hts
 unfold zbM
 cases l with
 | nil =>
  simp
  refine ⟨owK.mk [.t 2] ?_, owK.mk [] ?_⟩
  ·simp
   exact EndM.mk [0] [] (by simp)
  ·simp
   exact EndM.mk [0] [] (by simp)
 | cons x l =>
  simp
  refine ⟨by simp at hl; omega, ?_⟩
  refine owK.mk [] ?_
  simp
  exact EndM.mk [0] [] (by simp)
end Go.Gr
namespace Go.Gr
open Go.Abs Go.Proofs
mutual
theorem zfS : ∀ (c : Cor) (m : Nat) (b x : Int), wfC m c -> x ∈ rawV c b -> 0 <= x /\ x < b
 | .mk k n t is ns ts cs ks, m, b, x, h, hx => by
  rw [wfC] at h
  rw [rawV] at hx
  rcases List.mem_append.1 hx with hx | hx
  ·split at hx
   ·rename_i q
    rw [List.mem_singleton] at hx
    subst hx
    exact ⟨(h.2.2.2.1 q.1).1, q.2⟩
   ·cases hx
  ·exact zm7 ks m k 0 b x h.2.2.2.2.2 hx
theorem zm7 : ∀ (l : List Cor) (m : Nat) (k : Int) (i : Nat) (b x : Int), wfCs m k l i -> x ∈ zbh l b -> 0 <= x /\ x < b
 | [], m, k, i, b, x, h, hx => by rw [zbh] at hx; cases hx
 | c :: l, m, k, i, b, x, h, hx => by
  rw [wfCs] at h
  rw [zbh] at hx
  rcases List.mem_append.1 hx with hx | hx
  ·exact zfS c _ b x h.1 hx
  ·exact zm7 l m k (i + 1) b x h.2 hx
end
mutual
theorem zjv : ∀ (c : Cor) (b : Int), (rawV c b).length <= csz c
 | .mk k n t is ns ts cs ks, b => by
  have := zlW ks b
  rw [rawV, csz, List.length_append]
  split <;> simp <;> omega
theorem zlW : ∀ (l : List Cor) (b : Int), (zbh l b).length <= cszs l
 | [], b => by simp [zbh]
 | c :: l, b => by
  have := zjv c b
  have := zlW l b
  rw [zbh, cszs, List.length_append]; omega
end
theorem zlX (c : Cor) (b : Int) : (zck c b).length <= csz c := by
 have h1 := (zee (addL [] (rawV c b))).length_eq
 have h2 := zjN (rawV c b) []
 have h3 := zjv c b
 unfold zck
 simp only [List.length_nil] at h2
 omega
theorem zfm {c : Cor} {b x : Int} : x ∈ zck c b ↔ x ∈ rawV c b := by
 unfold zck
 rw [(zee _).mem_iff, zn4]
 simp
theorem ziT (c : Cor) (b : Int) : (zck c b).Pairwise (· < ·) := zgQ _ (zgP (by simp))
theorem zs2 (t : Todo) (c : Cor) (deep : Int) (l : List Todo) : za9 t c deep l =
  if c.kind = 4 then (.mk c.kind (numT t c.n) c.text c.ints c.names c.types c.cos c.kids, l)
  else if c.kind = 5 then
   (.mk 23 l.length (bs []) ((zck (c.kids.getD 0 noC) deep).map (numT t)) [] [] [] [], l ++ [⟨t.name ++ bs [39], c.kids.getD 0 noC, zck (c.kids.getD 0 noC) deep, deep, false⟩])
  else (.mk c.kind c.n c.text c.ints c.names c.types c.cos (za3 t c.kind c.kids 0 deep l).1, (za3 t c.kind c.kids 0 deep l).2) := by
 cases c; rw [za9]; try rfl
structure TodS (t : Todo) : Prop where
 d0 : 0 <= t.deep
 d1 : t.deep <= 1000000000
 caps : t.caps.length <= 1000000000
 name : t.name.size <= 100000000000
abbrev todA (l : List Todo) : Blk := .arr 11 ((l.map Todo.enc).map (·.map .d))
abbrev cvB (l : List Todo) : List Blk := [.box [.msl 11 1 0 l.length], todA l]
abbrev cvB' (l : List Todo) : List Blk := [.box [.msl 11 2 0 l.length], .dead, todA l]
def zj6 (c : Cor) : Prop := ∀ (t : Todo) (m : Nat) (l : List Todo), TodS t -> wfC m c -> m + csz c <= 1000000000 -> l.length + csz c <= 1000000000 ->
 MCall Pg F.clos_converter_core [.c (.ptr 0 0), .ag (t.enc.map .d), .ag (c.enc.map .d), .c (.d (.int .i64 m))] (cvB l) (.ag ((za9 t c m l).1.enc.map .d)) (cvB' (za9 t c m l).2)
theorem zvX (c : Cor) (x : Int) : put (c.enc.map AC.d) 1 [.d (.int .i64 x)] = (Cor.mk c.kind x c.text c.ints c.names c.types c.cos c.kids).enc.map .d := by
 rw [c.enc_eq, Cor.enc_eq]; try rfl
abbrev row7 (c : Cor) (x : AC) : List AC := [.d (.int .i64 c.kind), .d (.int .i64 c.n), .d (.str c.text), .d (.sl false 1 (encI c.ints)), .d (.sl false 1 (encS c.names)), .d (.sl false 4 (c.types.map Typ.enc)), .d (.sl false 5 (c.cos.map Coe.enc)), x]
theorem zvY (c : Cor) (x : AC) : put (c.enc.map AC.d) 7 [x] = row7 c x := by
 rw [c.enc_eq]; try rfl
theorem zoK (t : Todo) (k : Int) {l : List Cor} {j : Nat} (h : j < l.length) (deep : Int) (q : List Todo) : za3 t k (l.drop j) j deep q = ((za9 t l[j] (if k = 18 then deep + j else deep) q).1 :: (za3 t k (l.drop (j + 1)) (j + 1) deep (za9 t l[j] (if k = 18 then deep + j else deep) q).2).1, (za3 t k (l.drop (j + 1)) (j + 1) deep (za9 t l[j] (if k = 18 then deep + j else deep) q).2).2) := by
 rw [List.drop_eq_getElem_cons h, za3]
theorem zpn {m : Nat} {k : Int} (h5 : k ≠ 5) : ∀ {l : List Cor} {i j : Nat} (h : j < l.length), wfCs m k l i -> wfC (if k = 18 then m + (i + j) else m) l[j]
 | c :: l, i, 0, h, hw => by
  rw [wfCs, if_neg h5] at hw
  exact hw.1
 | c :: l, i, j + 1, h, hw => by
  rw [wfCs] at hw
  have := zpn h5 (i := i + 1) (j := j) (by simpa using h) hw.2
  rw [show i + 1 + j = i + (j + 1) from by omega] at this
  exact this
theorem zik : ∀ {l : List Cor} {j : Nat} (h : j < l.length), j + csz l[j] <= cszs l
 | c :: l, 0, h => by rw [cszs]; simp
 | c :: l, j + 1, h => by
  have := zik (l := l) (j := j) (by simpa using h)
  have := zed c
  rw [cszs]
  simp only [List.getElem_cons_succ]
  omega
theorem zm8 {α : Type} (f : α -> Int) : ∀ l : List α, D.erdE (List.map ((fun i => [D.int .i64 i]) ∘ f) l) = List.map ((fun i => [D.int .i64 i]) ∘ f) l
 | [] => rfl
 | x :: l => by simp [D.erdE, D.erdL, D.erd, zm8 f l]
theorem zuA {α : Type} {K l : List α} {j : Nat} (x : α) (h : K.length = j) (hj : j < l.length) : (K ++ l.drop j).set j x = K ++ x :: l.drop (j + 1) := by
 rw [List.drop_eq_getElem_cons hj, List.set_append_right _ _ (by omega), h, Nat.sub_self, List.set_cons_zero]
mutual
theorem zhs (t : Todo) : ∀ (c : Cor) (m : Int) (l : List Todo), (za9 t c m l).2.length <= l.length + csz c
 | .mk k n tx is ns ts cs ks, m, l => by
  have := zj7 t k ks 0 m l
  rw [za9, csz]
  simp only
  split
  ·simp only; omega
  split
  ·simp only [List.length_append, List.length_cons, List.length_nil]; omega
  ·simp only; omega
theorem zj7 (t : Todo) (k : Int) : ∀ (c : List Cor) (i : Nat) (m : Int) (l : List Todo), (za3 t k c i m l).2.length <= l.length + cszs c
 | [], i, m, l => by simp [za3, cszs]
 | c :: r, i, m, l => by
  have h1 := zhs t c (if k = 18 then m + i else m) l
  have h2 := zj7 t k r (i + 1) m (za9 t c (if k = 18 then m + i else m) l).2
  rw [za3, cszs]
  simp only
  omega
end
abbrev zmT (z : ByteArray) : List AC := [.d (.str z), .d (.int .i64 0), .d (.int .i64 0), .d (.str (bs [])), .d (.sl true 1 []), .d (.sl true 1 []), .d (.sl true 4 []), .d (.sl true 5 []), .d (.sl true 8 []), .d (.sl true 1 []), .d (.int .i64 0)]
theorem zs3 (z : ByteArray) (a : Cor) : 10 <= (splice (zmT z) 1 (a.enc.map AC.d)).length := by rw [zbg]; show 10 <= 11; decide
theorem zrw (z : ByteArray) (a : Cor) (x : AC) : 11 <= (put (splice (zmT z) 1 (a.enc.map AC.d)) 9 [x]).length := by
 rw [a.enc_eq]; exact Nat.le_refl _
theorem zs4 (z : ByteArray) (a : Cor) (C : List Int) (m : Int) : put (put (splice (zmT z) 1 (a.enc.map AC.d)) 9 [.d (.sl false 1 (encI C))]) 10 [.d (.int .i64 m)] = (Todo.enc ⟨z, a, C, m, false⟩).map .d := by
 unfold Todo.enc; rw [a.enc_eq]; try rfl
set_option maxRecDepth 20000 in
set_option maxHeartbeats 4000000 in
theorem zs5 (c : Cor) (ih : ∀ x, x ∈ c.kids -> zj6 x) : zj6 c := fun t m l hT hc hm hl => by
 refine zfK ⟨by simp, by simp, by simp, by simp, by simp, by simp, by simp [live]⟩ fun ts hts ok hbk cx hN hp => ?_
 obtain ⟨u, v, rfl⟩ := zuk hts
 have hsz := zed c
 have hkl := ze9 c.kids
 have hwf : c.kind ≠ 23 /\ (c.kind = 18 -> c.kids.length <= 2) /\ (c.kind = 21 -> c.kids.length = 1 /\ c.types.length = 2) /\ (c.kind = 4 -> 0 <= c.n /\ c.n < m /\ c.kids = []) /\ (c.kind = 5 -> c.kids.length = 1) /\ wfCs m c.kind c.kids 0 := by
  cases c; rw [wfC] at hc; exact hc
 rw [zs2]
 unfold zc4
 simp
 by_cases c4 : c.kind = 4
 ·rw [if_pos c4]
  have hn := hwf.2.2.2.1 c4
  have mn := zmp t c.n ⟨hT.d0, hT.d1⟩ (by omega) hT.caps
  simp [c4]
  refine zac.mk mn ?_
  simp [zvX]
  refine fzK.mk [] ?_
  simp
  exact EndM.mkE [0, 4, 1] [2, 2] (by simp [AV.erds, AV.erd, c4])
 rw [if_neg c4]
 by_cases c5 : c.kind = 5
 ·rw [if_pos c5]
  obtain ⟨a, ha⟩ : ∃ a, c.kids = [a] := by
   have := hwf.2.2.2.2.1 c5
   match h : c.kids, this with
   | [a], _ => exact ⟨a, rfl⟩
  have e0 : c.kids[0]?.getD noC = a := by rw [ha]; try rfl
  have e00 : c.kids.getD 0 noC = a := by rw [ha]; try rfl
  rw [e00]
  have hsa : cszs c.kids = csz a := by rw [ha]; simp [cszs]
  have hwa : wfC (m + 1) a := by
   have := hwf.2.2.2.2.2
   rw [ha, c5, wfCs] at this
   simpa using this.1
  have hcl := zlX a m
  have hcm : ∀ x, x ∈ zck a m -> 0 <= x /\ x < m := fun x hx => zfS a _ _ x hwa (zfm.1 hx)
  have hnd : (addL [] (rawV a m)).Nodup := zgP (by simp)
  have hln : (addL [] (rawV a m)).length <= 1073741824 := by
   have h2 := zjN (rawV a m) []
   have h3 := zjv a m
   simp only [List.length_nil] at h2
   omega
  have hso := zql _ hnd hln
  rw [zrK hnd] at hso
  have hga := zmo a (by omega) m []
  have eC : srtI (addL [] (rawV a m)) = zck a m := rfl
  rw [eC] at hso
  simp [c4, c5, ha]
  generalize addL [] (rawV a m) = U at *
  refine zaa.mk [6] hga (by simp [mapL]) ?_
  simp
  refine zaa.mk [6] (ztj U) (by simp; exact fun a b h => zdl h) ?_
  simp
  refine zaa.mk [6, 7] hso (by simp; exact fun a b h => zdl h) ?_
  generalize zck a m = C at *
  simp
  refine owK.mk [.c 8 3] ?_
  simp
  refine W.loop Pg_mixed hp (fun j : Nat => j <= C.length) (fun j => [(48, .c (.d (.int .i64 j))), (47, .c (.d (.int .i64 C.length))), (46, .c (.d (.sl false 1 (encI C)))), (11, .c (.ptr 6 0)), (10, .c (.d (.sl false 1 (encI C)))), (8, .c (.ptr 5 0)), (6, .c (.ptr 4 0)), (5, .c (.d (.rp t.enc 0))), (3, .c (.d (.int .i64 m))), (0, .c (.ptr 0 0))]) (fun j => [.box [.msl 11 1 0 l.length], todA l, .pin u 0, .pin v 1, .box (c.enc.map .d), .box [.d (.int .i64 0), .d (.int .i64 0), .d (.str (bs [])), .d (.sl true 1 []), .d (.sl true 1 []), .d (.sl true 4 []), .d (.sl true 5 []), .d (.sl true 8 [])], .box [.d (.int .i64 23), .d (.int .i64 l.length), .d (.str (bs [])), .msl 1 7 0 j, .d (.sl true 1 []), .d (.sl true 4 []), .d (.sl true 5 []), .d (.sl true 8 [])], .arr 1 ((encI ((C.take j).map (numT t))).map (·.map .d))]) (fun j => C.length - j) 0 [0, 1, 2, 3, 4, 5, 8, 9] (by simp) (by simp [encI]) fun j h1 => ?_
  unfold zcC
  simp
  refine gd.mk (fun h => ?_) (fun h => ?_)
  ·have hj : j < C.length := by simpa [encI] using h
   have hw := wrap_i64 (n := (j : Int) + 1) (by omega) (by omega)
   have hx := hcm _ (List.getElem_mem hj)
   have mn := zmp t C[j] ⟨hT.d0, hT.d1⟩ (by omega) hT.caps
   have htk : C.take (j + 1) = C.take j ++ [C[j]] := List.take_succ_eq_append_getElem hj
   simp [encI, hj]
   refine zac.mk mn ?_
   simp [encI]
   refine ⟨by omega, by omega, by decide, ?_⟩
   refine Abs.Next.mk (j + 1) [0, 1, 2, 3, 4, 5, 6, 8] (by omega) (by omega) ?_
   simp [hw, encI]
   refine ⟨?_, fun x hx => ?_⟩
   ·rw [List.take_take, Nat.min_self, List.take_succ_eq_append_getElem (by simpa using hj)]; simp
   ·obtain ⟨y, _, e⟩ := List.mem_map.1 (List.mem_of_mem_take hx)
    subst e
    simp
  ·have hj : j = C.length := by simp [encI] at h; omega
   subst hj
   simp [ha, zs3, zrw, zs4]
   refine ⟨by unfold zak; have := hT.name; omega, by omega, by decide, ?_⟩
   refine fzK.mk [7] ?_
   simp
   have htC : List.take C.length (List.map ((fun i => [D.int .i64 i]) ∘ numT t) C) = List.map ((fun i => [D.int .i64 i]) ∘ numT t) C := List.take_of_length_le (by simp)
   have htl : List.take l.length (List.map ((fun x => List.map AC.d x) ∘ Todo.enc) l) = List.map ((fun x => List.map AC.d x) ∘ Todo.enc) l := List.take_of_length_le (by simp)
   exact EndM.mkE [0, 1, 8] [2, 2] (by simp [AV.erds, AV.erd, AC.erd, D.erdL, D.erd, D.erdE, Cor.enc, Cor.encs, encI, encS, htC, htl, zm8])
 rw [if_neg c5]
 simp [c4, c5]
 refine zaa.mk [] (ztC c.kids (by omega)) (by simp) ?_
 simp [zvY]
 obtain ⟨R, hR⟩ : ∃ R, za3 t c.kind c.kids 0 m l = R := ⟨_, rfl⟩
 rw [hR]
 refine W.loop Pg_mixed hp (fun Y : Nat × List Cor × List Todo => Y.1 <= c.kids.length /\ Y.2.1.length = Y.1 /\ (Y.2.1 ++ (za3 t c.kind (c.kids.drop Y.1) Y.1 m Y.2.2).1, (za3 t c.kind (c.kids.drop Y.1) Y.1 m Y.2.2).2) = R /\ Y.2.2.length + cszs (c.kids.drop Y.1) <= 1000000000) (fun Y => [(88, .c (.d (.int .i64 Y.1))), (87, .c (.d (.int .i64 c.kids.length))), (86, .c (.msl 8 5 0 c.kids.length)), (8, .c (.ptr 3 0)), (6, .c (.ptr 2 0)), (5, .c (.d (.rp t.enc 0))), (3, .c (.d (.int .i64 m))), (0, .c (.ptr 0 0))]) (fun Y => [.box [.msl 11 4 0 Y.2.2.length], .pin u 0, .box (row7 c (.msl 8 5 0 c.kids.length)), .box [.d (.int .i64 0), .d (.int .i64 0), .d (.str (bs [])), .d (.sl true 1 []), .d (.sl true 1 []), .d (.sl true 4 []), .d (.sl true 5 []), .d (.sl true 8 [])], todA Y.2.2, .arr 8 (((Y.2.1 ++ c.kids.drop Y.1).map Cor.enc).map (·.map .d))]) (fun Y => c.kids.length - Y.1) (0, [], l) [0, 2, 4, 5, 1, 6] ⟨by simp, rfl, by simpa using hR, by simp; omega⟩ (by simp) fun ⟨j, K, q⟩ ⟨i1, i2, i3, i4⟩ => ?_
 unfold zcD
 simp only at i1 i2 i3 i4
 simp
 refine gd.mk (fun h => ?_) (fun h => ?_)
 ·have hj : j < c.kids.length := by simpa using h
  have hw := wrap_i64 (n := (j : Int) + 1) (by omega) (by omega)
  have hg : (List.map ((fun x => List.map AC.d x) ∘ Cor.enc) K ++ List.drop j (List.map ((fun x => List.map AC.d x) ∘ Cor.enc) c.kids))[j]? = some (c.kids[j].enc.map .d) := by
   rw [List.getElem?_append_right (by simp [i2])]
   simp [i2, hj]
  have hset : ∀ x : Cor, (List.map ((fun x => List.map AC.d x) ∘ Cor.enc) K ++ List.drop j (List.map ((fun x => List.map AC.d x) ∘ Cor.enc) c.kids)).set j (x.enc.map .d) = List.map ((fun x => List.map AC.d x) ∘ Cor.enc) K ++ (x.enc.map .d) :: List.drop (j + 1) (List.map ((fun x => List.map AC.d x) ∘ Cor.enc) c.kids) := fun x => zuA _ (by simp [i2]) (by simpa using hj)
  have hdl : ∀ (n : Nat) (x : List AC), x ∈ List.drop (j + 1) (List.map ((fun x => List.map AC.d x) ∘ Cor.enc) c.kids) -> AC.lts n x = true := fun n x hx => by
   obtain ⟨c', _, e⟩ := List.mem_map.1 (List.mem_of_mem_drop hx)
   subst e
   simp
  have hwj := zpn c5 hj hwf.2.2.2.2.2
  have hsj := zik hj
  have hdj : cszs (c.kids.drop j) = csz c.kids[j] + cszs (c.kids.drop (j + 1)) := by rw [List.drop_eq_getElem_cons hj, cszs]
  have hco := ih _ (List.getElem_mem hj)
  rw [zoK t c.kind hj] at i3
  obtain ⟨d, hd⟩ : ∃ d, c.kids[j] = d := ⟨_, rfl⟩
  rw [hd] at hg hwj hsj hdj hco i3
  by_cases c18 : c.kind = 18
  ·rw [if_pos c18] at hwj
   simp only [if_pos c18] at i3
   have hwd := wrap_i64 (n := (m : Int) + j) (by omega) (by omega)
   have mc := hco t (m + j) q hT (by simpa using hwj) (by omega) (by omega)
   have hlen := zhs t d (m + j) q
   have em : ((m + j : Nat) : Int) = (m : Int) + j := by omega
   rw [em] at mc
   generalize za9 t d ((m : Int) + j) q = r at *
   simp [hj, hg, c18, hwd]
   refine zaa.mk [0, 4] mc (by simp) ?_
   simp [hj, hg, hset]
   refine ⟨by decide, ?_⟩
   refine Abs.Next.mk (j + 1, K ++ [r.1], r.2) [0, 1, 2, 3, 7, 5] ⟨by simp only; omega, by simp [i2], by simpa using i3, by simp only; omega⟩ (by simp only; omega) ?_
   simp [hw]
   exact fun x hx => hdl 6 x hx
  ·rw [if_neg c18] at hwj
   simp only [if_neg c18] at i3
   have mc := hco t m q hT (by simpa using hwj) (by omega) (by omega)
   have hlen := zhs t d m q
   generalize za9 t d m q = r at *
   simp [hj, hg, c18]
   refine zaa.mk [0, 4] mc (by simp) ?_
   simp [hj, hg, hset]
   refine ⟨by decide, ?_⟩
   refine Abs.Next.mk (j + 1, K ++ [r.1], r.2) [0, 1, 2, 3, 7, 5] ⟨by simp only; omega, by simp [i2], by simpa using i3, by simp only; omega⟩ (by simp only; omega) ?_
   simp [hw]
   exact fun x hx => hdl 6 x hx
 ·have hj : j = c.kids.length := by simp at h; omega
  subst hj
  rw [List.drop_length, za3] at i3
  subst i3
  have hd : List.drop c.kids.length (List.map ((fun x => List.map AC.d x) ∘ Cor.enc) c.kids) = [] := List.drop_eq_nil_of_le (by simp)
  rw [hd]
  refine fzK.mk [5] ?_
  simp
  have htk : List.take c.kids.length (List.map Cor.enc K) = List.map Cor.enc K := List.take_of_length_le (by simp [i2])
  exact EndM.mkE [0, 2, 4] [1, 1] (by simp [AV.erds, AV.erd, AC.erd, i2, htk, Cor.enc, Cor.encs_map, zhC, Coe.erdE_map])
end Go.Gr
namespace Go.Gr
open Go.Abs Go.Proofs
mutual
theorem zpB : ∀ c : Cor, zj6 c
 | .mk k n t is ns ts cs ks => zs5 _ (znG ks)
theorem znG : ∀ (l : List Cor) (x : Cor), x ∈ l -> zj6 x
 | [], x, hx => by cases hx
 | c :: l, x, hx => by
  rcases List.mem_cons.1 hx with e | hx
  ·rw [e]; exact zpB c
  ·exact znG l x hx
end
mutual
def newT (t : Todo) : Cor -> Int -> List Todo
 | .mk k n tx is ns ts cs ks => fun deep =>
  if k = 4 then []
  else if k = 5 then [⟨t.name ++ bs [39], ks.getD 0 noC, zck (ks.getD 0 noC) deep, deep, false⟩]
  else zbT t k ks 0 deep
def zbT (t : Todo) (k : Int) : List Cor -> Nat -> Int -> List Todo
 | [] => fun _ _ => []
 | c :: r => fun i deep => newT t c (if k = 18 then deep + i else deep) ++ zbT t k r (i + 1) deep
end
mutual
theorem zdm (t : Todo) : ∀ (c : Cor) (m : Int) (l : List Todo), (za9 t c m l).2 = l ++ newT t c m
 | .mk k n tx is ns ts cs ks, m, l => by
  have := zkl t k ks 0 m l
  rw [za9, newT]
  simp only
  split
  ·simp
  split
  ·rfl
  ·exact this
theorem zkl (t : Todo) (k : Int) : ∀ (c : List Cor) (i : Nat) (m : Int) (l : List Todo), (za3 t k c i m l).2 = l ++ zbT t k c i m
 | [], i, m, l => by simp [za3, zbT]
 | c :: r, i, m, l => by
  have h1 := zdm t c (if k = 18 then m + i else m) l
  have h2 := zkl t k r (i + 1) m (za9 t c (if k = 18 then m + i else m) l).2
  rw [za3, zbT]
  simp only
  rw [h2, h1, List.append_assoc]
end
def sumT (f : Cor -> Nat) (l : List Todo) : Nat := (l.map fun t => f t.body).sum
@[simp] theorem zw2 (f : Cor -> Nat) : sumT f [] = 0 := rfl
theorem zgI (f : Cor -> Nat) (a b : List Todo) : sumT f (a ++ b) = sumT f a + sumT f b := by simp [sumT]
theorem zma (f : Cor -> Nat) (t : Todo) (b : List Todo) : sumT f (t :: b) = f t.body + sumT f b := by simp [sumT]
theorem zvv (c : Cor) : nfn c = (if c.kind = 5 then 1 else 0) + nfns c.kids := by cases c; rw [nfn]; try rfl
theorem zio {ks : List Cor} (h : ks.length = 1) : ks = [ks.getD 0 noC] := by
 match ks, h with
 | [a], _ => rfl
theorem zfu (k : Int) (m i : Nat) : (if k = 18 then (m : Int) + i else m) = ((if k = 18 then m + i else m : Nat) : Int) := by
 split <;> simp
mutual
theorem znH (t : Todo) : ∀ (c : Cor) (m : Nat), wfC m c -> (newT t c m).length + sumT nfn (newT t c m) = nfn c
 | .mk k n tx is ns ts cs ks, m, h => by
  rw [wfC] at h
  rw [newT, nfn]
  by_cases k4 : k = 4
  ·simp only [if_pos k4]
   rw [(h.2.2.2.1 k4).2.2, k4]
   try rfl
  by_cases k5 : k = 5
  ·simp only [if_neg k4, if_pos k5]
   have e := zio (h.2.2.2.2.1 k5)
   have e2 : nfns ks = nfn (ks.getD 0 noC) := by rw [e]; simp [nfns]
   simp only [sumT, e2, List.length_cons, List.length_nil, List.map_cons, List.map_nil, List.sum_cons, List.sum_nil]
   omega
  ·simp only [if_neg k4, if_neg k5]
   rw [zmb t k k5 ks m 0 h.2.2.2.2.2]
   omega
theorem zmb (t : Todo) (k : Int) (k5 : k ≠ 5) : ∀ (l : List Cor) (m i : Nat), wfCs m k l i -> (zbT t k l i m).length + sumT nfn (zbT t k l i m) = nfns l
 | [], m, i, h => by simp [zbT, nfns]
 | c :: r, m, i, h => by
  rw [wfCs, if_neg k5] at h
  have h1 := znH t c _ h.1
  have h2 := zmb t k k5 r m (i + 1) h.2
  rw [zbT, nfns]
  simp only
  rw [zfu, List.length_append, zgI]
  omega
end
mutual
theorem znI (t : Todo) : ∀ (c : Cor) (m : Nat), wfC m c -> (newT t c m).length + sumT csz (newT t c m) <= csz c
 | .mk k n tx is ns ts cs ks, m, h => by
  rw [wfC] at h
  rw [newT, csz]
  by_cases k4 : k = 4
  ·simp only [if_pos k4]
   simp
  by_cases k5 : k = 5
  ·simp only [if_neg k4, if_pos k5]
   have e := zio (h.2.2.2.2.1 k5)
   have e2 : cszs ks = csz (ks.getD 0 noC) := by rw [e]; simp [cszs]
   simp only [sumT, e2, List.length_cons, List.length_nil, List.map_cons, List.map_nil, List.sum_cons, List.sum_nil]
   omega
  ·simp only [if_neg k4, if_neg k5]
   have := zmc t k k5 ks m 0 h.2.2.2.2.2
   omega
theorem zmc (t : Todo) (k : Int) (k5 : k ≠ 5) : ∀ (l : List Cor) (m i : Nat), wfCs m k l i -> (zbT t k l i m).length + sumT csz (zbT t k l i m) <= cszs l
 | [], m, i, h => by simp [zbT]
 | c :: r, m, i, h => by
  rw [wfCs, if_neg k5] at h
  have h1 := znI t c _ h.1
  have h2 := zmc t k k5 r m (i + 1) h.2
  rw [zbT, cszs]
  simp only
  rw [zfu, List.length_append, zgI]
  omega
end
structure ziq (t : Todo) : Prop where
 ex : ∃ D : Nat, t.deep = D /\ wfC (D + 1) t.body /\ D + 1 + csz t.body <= 500000000 /\ (∀ x, x ∈ t.caps -> 0 <= x /\ x < D) /\ (∀ x, x ∈ rawV t.body D -> x ∈ t.caps)
 name : t.name.size + csz t.body <= 50000000000
 caps : t.caps.length <= 1000000000
 rise : t.caps.Pairwise (· < ·)
theorem ziq.S {t : Todo} (h : ziq t) : TodS t := by
 obtain ⟨D, e, _, b, _⟩ := h.ex
 have := h.name
 exact ⟨by omega, by omega, h.caps, by omega⟩
mutual
theorem zmd (t : Todo) : ∀ (c : Cor) (m : Nat), wfC m c -> m + csz c <= 500000000 -> t.name.size + csz c <= 50000000000 -> ∀ q, q ∈ newT t c m -> ziq q
 | .mk k n tx is ns ts cs ks, m, h, hb, hn, q, hq => by
  rw [wfC] at h
  rw [newT] at hq
  rw [csz] at hb hn
  by_cases k4 : k = 4
  ·simp only [if_pos k4] at hq
   cases hq
  by_cases k5 : k = 5
  ·simp only [if_neg k4, if_pos k5, List.mem_singleton] at hq
   subst hq
   have e := zio (h.2.2.2.2.1 k5)
   have e2 : cszs ks = csz (ks.getD 0 noC) := by rw [e]; simp [cszs]
   have hw := h.2.2.2.2.2
   generalize ks.getD 0 noC = a at *
   rw [e, k5, wfCs, if_pos rfl] at hw
   have hl := zlX a m
   refine ⟨⟨m, rfl, hw.1, ?_, fun x hx => zfS a _ _ x hw.1 (zfm.1 hx), fun x hx => zfm.2 hx⟩, ?_, ?_, ziT a m⟩
   ·simp only; omega
   ·have hb1 : (bs [39]).size = 1 := rfl
    simp only
    rw [ByteArray.size_append]
    omega
   ·simp only; omega
  ·simp only [if_neg k4, if_neg k5] at hq
   exact zkm t k k5 ks m 0 h.2.2.2.2.2 (by omega) (by omega) q hq
theorem zkm (t : Todo) (k : Int) (k5 : k ≠ 5) : ∀ (l : List Cor) (m i : Nat), wfCs m k l i -> m + i + cszs l <= 500000000 -> t.name.size + cszs l <= 50000000000 -> ∀ q, q ∈ zbT t k l i m -> ziq q
 | [], m, i, h, hb, hn, q, hq => by rw [zbT] at hq; cases hq
 | c :: r, m, i, h, hb, hn, q, hq => by
  rw [wfCs, if_neg k5] at h
  rw [zbT] at hq
  rw [cszs] at hb hn
  have := zed c
  simp only at hq
  rw [zfu] at hq
  rcases List.mem_append.1 hq with hq | hq
  ·exact zmd t c _ h.1 (by split <;> omega) (by omega) q hq
  ·exact zkm t k k5 r m (i + 1) h.2 (by omega) (by omega) q hq
end
end Go.Gr
namespace Go.Gr
open Go.Abs Go.Proofs
abbrev fltV (l : List Flt) : DV := .one (.sl false 10 (l.map Flt.enc))
@[simp] theorem Flt.enc_length (f : Flt) : f.enc.length = 10 := by simp [Flt.enc]
@[simp] theorem Fun.get0 (f : Fun) (h : 0 < f.enc.length) : f.enc[0] = .str f.name := rfl
@[simp] theorem Fun.cut_body (f : Fun) : cut (f.enc.map AC.d) 5 8 = f.body.enc.map .d := by unfold Fun.enc; rw [f.type.enc_eq, f.body.enc_eq]; try rfl
theorem zie (f : Cor -> Nat) {l : List Todo} {i : Nat} (h : i < l.length) : sumT f (l.drop i) = f l[i].body + sumT f (l.drop (i + 1)) := by
 rw [List.drop_eq_getElem_cons h, zma]
def CvI (l : List Todo) (i : Nat) : Prop := i <= l.length /\ (∀ t, t ∈ l -> ziq t) /\ l.length + sumT csz (l.drop i) <= 500000000
theorem CvI.step {l : List Todo} {i : Nat} (h : CvI l i) (hi : i < l.length) {D : Nat} (hD : l[i].deep = D) (hw : wfC (D + 1) l[i].body) (hb : D + 1 + csz l[i].body <= 500000000) : CvI (za9 l[i] l[i].body (l[i].deep + 1) l).2 (i + 1) := by
 obtain ⟨h1, h2, h3⟩ := h
 have hm := h2 _ (List.getElem_mem hi)
 rw [zie csz hi] at h3
 have e : l[i].deep + 1 = ((D + 1 : Nat) : Int) := by rw [hD]; omega
 rw [zdm, e]
 have hc := znI l[i] l[i].body (D + 1) hw
 have hg := zmd l[i] l[i].body (D + 1) hw hb hm.name
 refine ⟨by simp; omega, fun t ht => ?_, ?_⟩
 ·rcases List.mem_append.1 ht with ht | ht
  ·exact h2 t ht
  ·exact hg t ht
 ·rw [List.drop_append_of_le_length (by omega), zgI, List.length_append]
  omega
theorem zq8 {f : Fun} (h : FunG f) : ziq (todo0 f) := by
 have hc := h.1.2
 have hn := h.2
 refine ⟨⟨0, rfl, h.1.1, by show 0 + 1 + csz f.body <= _; omega, fun x hx => (by cases hx), fun x hx => ?_⟩, by show f.name.size + csz f.body <= _; omega, by simp [todo0], by simp [todo0]⟩
 have := zfS f.body _ _ x h.1.1 hx
 omega
theorem CvI.start {p : Prg} (h : PrgG p) : CvI (p.funs.map todo0) 0 := by
 refine ⟨by simp, fun t ht => ?_, ?_⟩
 ·obtain ⟨f, hf, e⟩ := List.mem_map.1 ht
  subst e
  exact zq8 (h.1 f hf)
 ·have key : ∀ l : List Fun, (∀ f, f ∈ l -> FunG f) -> sumT csz (l.map todo0) <= l.length * 120005 := fun l => by
   induction l with
   | nil => intro _; simp
   | cons f l ih =>
    intro hl
    have h1 := ih fun x hx => hl x (by simp [hx])
    have h2 := (hl f (by simp)).1.2
    have h3 : (todo0 f).body = f.body := rfl
    rw [List.map_cons, zma, List.length_cons, h3]
    omega
  have h1 := key p.funs h.1
  have h2 := h.2
  rw [List.drop_zero, List.length_map]
  omega
def psi (l : List Todo) (i : Nat) : Nat := l.length - i + sumT nfn (l.drop i)
theorem zos {l : List Todo} {i : Nat} (hi : i < l.length) {D : Nat} (hD : l[i].deep = D) (hw : wfC (D + 1) l[i].body) : psi (za9 l[i] l[i].body (l[i].deep + 1) l).2 (i + 1) + 1 = psi l i := by
 unfold psi
 have e : l[i].deep + 1 = ((D + 1 : Nat) : Int) := by rw [hD]; omega
 rw [zdm, e]
 have hc := znH l[i] l[i].body (D + 1) hw
 rw [List.drop_append_of_le_length (by omega), zgI, List.length_append, zie nfn hi]
 omega
theorem zsB (z : ByteArray) (a : Cor) : splice (zmT z) 1 (a.enc.map AC.d) = (Todo.enc ⟨z, a, [], 0, true⟩).map .d := by
 unfold Todo.enc; rw [a.enc_eq]; try rfl
abbrev zum (z : ByteArray) (n : Int) : List AC := [.d (.str z), .d (.int .i64 n), .d (.int .i64 0), .d (.int .i64 0), .d (.str (bs [])), .d (.sl true 1 []), .d (.sl true 1 []), .d (.sl true 4 []), .d (.sl true 5 []), .d (.sl true 8 [])]
theorem zu6 (z : ByteArray) (n : Int) (a : Cor) : put (zum z n) 2 (a.enc.map AC.d) = (Flt.enc ⟨z, n, a⟩).map .d := by
 unfold Flt.enc; rw [a.enc_eq]; try rfl
theorem zu7 (z : ByteArray) (n : Int) (a : Cor) : splice (zum z n) 2 (a.enc.map AC.d) = (Flt.enc ⟨z, n, a⟩).map .d := by
 unfold Flt.enc; rw [a.enc_eq]; try rfl
abbrev fltA (l : List Flt) : Blk := .arr 10 ((l.map Flt.enc).map (·.map .d))
set_option maxRecDepth 20000 in
set_option maxHeartbeats 4000000 in
theorem zk4 (p : Prg) (hp0 : PrgG p) : PCall Pg F.clos_Convert [.agg p.enc] (fltV (convP p)) := by
 refine zlo (by simp) fun o cx hN hp => ?_
 obtain ⟨R, hR⟩ : ∃ R, convP p = R := ⟨_, rfl⟩
 rw [hR]
 have hpl := hp0.2
 have pe0 : p.enc[0]? = some (.sl false 13 (p.funs.map Fun.enc)) := rfl
 unfold zfv
 simp [pe0]
 refine owK.mk [.c 0 0] ?_
 simp
 refine W.loop Pg_mixed hp (fun j : Nat => j <= p.funs.length) (fun j => [(14, .c (.d (.int .i64 j))), (13, .c (.d (.int .i64 p.funs.length))), (12, .c (.d (.sl false 13 (p.funs.map Fun.enc)))), (3, .c (.ptr 0 0))]) (fun j => [.box [.msl 11 1 0 j], todA ((p.funs.take j).map todo0)]) (fun j => p.funs.length - j) 0 [0, 1] (by simp) (by simp) fun j h1 => ?_
 unfold zew
 simp
 refine gd.mk (fun h => ?_) (fun h => ?_)
 ·have hj : j < p.funs.length := by simpa using h
  have hw := wrap_i64 (n := (j : Int) + 1) (by omega) (by omega)
  obtain ⟨f, hf⟩ : ∃ f, p.funs[j] = f := ⟨_, rfl⟩
  have htk : p.funs.take (j + 1) = p.funs.take j ++ [f] := by rw [List.take_succ_eq_append_getElem hj, hf]
  simp [hj, hf, zsB]
  refine ⟨by omega, by omega, by decide, ?_⟩
  refine Abs.Next.mk (j + 1) [0, 3] (by omega) (by omega) ?_
  simp [hw]
  refine ⟨?_, fun x hx => ?_⟩
  ·rw [List.take_take, Nat.min_self, List.take_succ_eq_append_getElem (by simpa using hj)]
   simp [hf, todo0]
  ·obtain ⟨y, _, e⟩ := List.mem_map.1 (List.mem_of_mem_take hx)
   subst e
   simp
 ·have hj : j = p.funs.length := by simp at h; omega
  subst hj
  simp
  refine owK.mk [.t 6] ?_
  simp
  have hst := CvI.start hp0
  have hpf : p.funs.length + nfns (p.funs.map (·.body)) = psi (p.funs.map todo0) 0 := by
   unfold psi sumT
   have key : ∀ l : List Fun, nfns (l.map (·.body)) = ((l.map todo0).map fun t => nfn t.body).sum := fun l => by
    induction l with
    | nil => simp [nfns]
    | cons f l ih => simp only [List.map_cons, nfns, ih, List.sum_cons]; rfl
   rw [key]; simp
  unfold convP nfnF at hR
  rw [hpf] at hR
  have hlen0 : p.funs.length = (p.funs.map todo0).length := by simp
  have hlm : List.map (List.map AC.d) (List.map (Todo.enc ∘ todo0) p.funs) = ((p.funs.map todo0).map Todo.enc).map (·.map .d) := by simp
  refine W.loop Pg_mixed hp (fun Y : Nat × List Todo × List Flt => CvI Y.2.1 Y.1 /\ Y.2.2.length = Y.1 /\ zgR (psi Y.2.1 Y.1 + 1) Y.1 Y.2.1 Y.2.2 = R) (fun Y => [(7, .c (.d (.int .i64 Y.1))), (6, .c (.msl 10 2 0 Y.2.2.length)), (3, .c (.ptr 0 0))]) (fun Y => [.box [.msl 11 1 0 Y.2.1.length], todA Y.2.1, fltA Y.2.2]) (fun Y => psi Y.2.1 Y.1) (0, p.funs.map todo0, []) [0, 1, 2] ⟨hst, rfl, hR⟩ (by simp; exact List.take_of_length_le (by simp)) fun ⟨i, l, o⟩ ⟨i1, i2, i3⟩ => ?_
  unfold zex
  simp only at i1 i2 i3
  simp
  refine gd.mk (fun h => ?_) (fun h => ?_)
  ·have hi : i < l.length := by simpa using h
   have h500 := i1.2.2
   have hw := wrap_i64 (n := (i : Int) + 1) (by omega) (by omega)
   have htg := i1.2.1 _ (List.getElem_mem hi)
   obtain ⟨D, hD, hwf, hb, hcp, _⟩ := htg.ex
   have hst2 := i1.step hi hD hwf hb
   have hps := zos hi hD hwf
   rw [zie csz hi] at h500
   obtain ⟨t, ht⟩ : ∃ t, l[i] = t := ⟨_, rfl⟩
   rw [<- hps] at i3
   rw [zgR, List.getElem?_eq_getElem hi] at i3
   simp only at i3
   rw [ht] at htg hD hwf hb hst2 hps i3 h500
   have mc := zpB t.body t (D + 1) l htg.S hwf (by omega) (by omega)
   have em : ((D + 1 : Nat) : Int) = t.deep + 1 := by rw [hD]; omega
   rw [em] at mc
   have hwd := wrap_i64 (n := t.deep + 1) (by omega) (by omega)
   have hTn : t.caps.length <= 1000000000 := htg.caps
   generalize za9 t t.body (t.deep + 1) l = r at *
   simp [hi, ht, hwd]
   refine zaa.mk [0, 1] mc (by simp) ?_
   simp [zu6, zu7]
   refine ⟨by omega, by decide, ?_⟩
   have hto : List.take o.length (List.map ((fun x => List.map AC.d x) ∘ Flt.enc) o) = List.map ((fun x => List.map AC.d x) ∘ Flt.enc) o := List.take_of_length_le (by simp)
   refine Abs.Next.mk (i + 1, r.2, o ++ [⟨t.name, t.caps.length, r.1⟩]) [0, 4, 5] ⟨hst2, by simp [i2], i3⟩ (by simp only; omega) ?_
   simp [hw, hto]
  ·have hi : i = l.length := by have := i1.1; simp at h; omega
   subst hi
   have e0 : psi l l.length = 0 := by simp [psi]
   rw [e0, zgR, List.getElem?_eq_none (Nat.le_refl _)] at i3
   simp only at i3
   subst i3
   refine fzK.mk [2] ?_
   simp
   exact List.take_of_length_le (by simp)
end Go.Gr
namespace Go.Gr
open Go.Abs Go.Proofs
mutual
def mkC : Cor -> List Int
 | .mk k n _ _ _ _ _ ks => (if k = 23 then [n] else []) ++ mkCs ks
def mkCs : List Cor -> List Int
 | [] => []
 | c :: l => mkC c ++ mkCs l
end
def rngI (s n : Nat) : List Int := (List.range' s n).map (fun (x : Nat) => (x : Int))
theorem zyz (s a b : Nat) : rngI s (a + b) = rngI s a ++ rngI (s + a) b := by
 unfold rngI
 rw [<- List.map_append]
 have := List.range'_append (s := s) (m := a) (n := b) (step := 1)
 rw [Nat.one_mul] at this
 rw [this]
mutual
theorem zyo (t : Todo) : ∀ (c : Cor) (m : Nat) (l : List Todo), wfC m c -> mkC (za9 t c m l).1 = rngI l.length (newT t c m).length
 | .mk k n tx is ns ts cs ks, m, l, h => by
  rw [wfC] at h
  rw [newT, za9]
  by_cases k4 : k = 4
  ·simp only [if_pos k4]
   rw [mkC, (h.2.2.2.1 k4).2.2, if_neg h.1]
   try rfl
  by_cases k5 : k = 5
  ·simp only [if_neg k4, if_pos k5]
   rfl
  ·simp only [if_neg k4, if_neg k5]
   rw [mkC, if_neg h.1, zyi t k k5 ks m 0 l h.2.2.2.2.2]
   try rfl
theorem zyi (t : Todo) (k : Int) (k5 : k ≠ 5) : ∀ (c : List Cor) (m i : Nat) (l : List Todo), wfCs m k c i -> mkCs (za3 t k c i m l).1 = rngI l.length (zbT t k c i m).length
 | [], m, i, l, h => by rw [za3, zbT]; try rfl
 | c :: r, m, i, l, h => by
  rw [wfCs, if_neg k5] at h
  rw [za3, zbT]
  simp only
  rw [zfu, mkCs, zyo t c _ l h.1, zyi t k k5 r m (i + 1) _ h.2, zdm, List.length_append, List.length_append, zyz]
end
mutual
theorem zlO (t : Todo) : ∀ (c : Cor) (m : Int) (l : List Todo), csz (za9 t c m l).1 <= csz c
 | .mk k n tx is ns ts cs ks, m, l => by
  have := zjZ t k ks 0 m l
  rw [za9]
  simp only
  split
  ·simp only [csz]; omega
  split
  ·simp only [csz, cszs]; omega
  ·simp only [csz]; omega
theorem zjZ (t : Todo) (k : Int) : ∀ (c : List Cor) (i : Nat) (m : Int) (l : List Todo), cszs (za3 t k c i m l).1 <= cszs c
 | [], i, m, l => by simp [za3]
 | c :: r, i, m, l => by
  have h1 := zlO t c (if k = 18 then m + i else m) l
  have h2 := zjZ t k r (i + 1) m (za9 t c (if k = 18 then m + i else m) l).2
  rw [za3, cszs]
  simp only [cszs]
  omega
end
inductive Run : Nat -> List Todo -> List Flt -> List Todo -> Prop
 | done (l : List Todo) : Run l.length l [] l
 | step {i : Nat} {l : List Todo} {t : Todo} {fs : List Flt} {lf : List Todo} (h : l[i]? = some t) (r : Run (i + 1) (l ++ newT t t.body (t.deep + 1)) fs lf) : Run i l (⟨t.name, t.caps.length, (za9 t t.body (t.deep + 1) l).1⟩ :: fs) lf
theorem zlP : ∀ (n i : Nat) (l : List Todo) (o : List Flt), CvI l i -> n = psi l i -> ∃ fs lf, Run i l fs lf /\ zgR (n + 1) i l o = o ++ fs
 | n, i, l, o, hI, hn => by
  rw [zgR]
  by_cases hi : i < l.length
  ·obtain ⟨D, hD, hw, hb, _⟩ := (hI.2.1 _ (List.getElem_mem hi)).ex
   have hs := hI.step hi hD hw hb
   have hp := zos hi hD hw
   rw [List.getElem?_eq_getElem hi]
   simp only
   match n, hn with
   | 0, hn => omega
   | n + 1, hn =>
    obtain ⟨fs, lf, r, e⟩ := zlP n (i + 1) _ (o ++ [⟨l[i].name, l[i].caps.length, (za9 l[i] l[i].body (l[i].deep + 1) l).1⟩]) hs (by omega)
    rw [zdm] at r
    exact ⟨_, lf, .step (List.getElem?_eq_getElem hi) r, by rw [e]; simp⟩
  ·have e : i = l.length := by have := hI.1; omega
   subst e
   rw [List.getElem?_eq_none (Nat.le_refl _)]
   exact ⟨[], l, .done l, by simp⟩
theorem zrl {p : Prg} (hp : PrgG p) : ∃ lf, Run 0 (p.funs.map todo0) (convP p) lf := by
 have hpf : nfnF p.funs = psi (p.funs.map todo0) 0 := by
  unfold nfnF psi sumT
  have key : ∀ l : List Fun, nfns (l.map (·.body)) = ((l.map todo0).map fun t => nfn t.body).sum := fun l => by
   induction l with
   | nil => simp [nfns]
   | cons f l ih => simp only [List.map_cons, nfns, ih, List.sum_cons]; rfl
  rw [key]; simp
 obtain ⟨fs, lf, r, e⟩ := zlP (nfnF p.funs) 0 (p.funs.map todo0) [] (CvI.start hp) hpf
 unfold convP
 rw [e]
 exact ⟨lf, r⟩
end Go.Gr
namespace Go.Gr
open Go.Abs Go.Proofs
mutual
theorem zpy : ∀ c : Cor, nfn c <= csz c
 | .mk k n t is ns ts cs ks => by
  have := znx ks
  rw [nfn, csz]
  split <;> omega
theorem znx : ∀ l : List Cor, nfns l <= cszs l
 | [] => by simp [nfns]
 | c :: l => by
  have := zpy c
  have := znx l
  rw [nfns, cszs]; omega
end
theorem zrL {l : List Cor} {j : Nat} (h : j < l.length) : nfns (l.drop j) = nfn l[j] + nfns (l.drop (j + 1)) := by
 rw [List.drop_eq_getElem_cons h, nfns]
def FnOk (c : Cor) : Prop := csz c <= 1000000000 -> PCall Pg F.w13_functions [.agg c.enc] (.one (.int .i64 (nfn c)))
set_option maxRecDepth 20000 in
theorem functions_one (c : Cor) (ih : ∀ x, x ∈ c.kids -> FnOk x) : FnOk c := fun hc => by
 refine zkn (by simp) fun o cx hN hp => ?_
 have hk := ze9 c.kids
 have hs := zed c
 have hn := zpy c
 have hnq := zvv c
 obtain ⟨R, hR⟩ : ∃ R, nfn c = R := ⟨_, rfl⟩
 rw [hR]
 have key : ∀ (s : Nat), s + nfns c.kids = R -> ∀ (S : St) (l0 : List Nat), Match l0 S [(4, .c (.d (.int .i64 (0 : Nat)))), (3, .c (.d (.int .i64 s))), (1, .c (.d (.rp c.enc 0)))] [] -> lw_ Pg cx zcE (blockQ 0 (thenQ (w_ Pg cx (.seq (.reg [⟨none, some 23, .mv (.t 3)⟩, ⟨none, some 2, .mv (.t 23)⟩]) .ret) (endQ [.tmp 2] (.one (.int .i64 R))) ⟨⟩) (endQ [.tmp 2] (.one (.int .i64 R))))) ⟨⟩ S := fun s hs0 S l0 h0 => by
  refine W.loop Pg_mixed hp (fun Y : Nat × Nat => Y.1 <= c.kids.length /\ Y.2 + nfns (c.kids.drop Y.1) = R) (fun Y => [(4, .c (.d (.int .i64 Y.1))), (3, .c (.d (.int .i64 Y.2))), (1, .c (.d (.rp c.enc 0)))]) (fun _ => []) (fun Y => c.kids.length - Y.1) (0, s) l0 ⟨by simp, by simpa using hs0⟩ h0 fun ⟨j, q⟩ ⟨i1, i2⟩ => ?_
  unfold zcE
  simp only at i1 i2
  simp
  refine gd.mk (fun h => ?_) (fun h => ?_)
  ·have hj : j < c.kids.length := by simpa using h
   rw [zrL hj] at i2
   have hsj := zik hj
   have hco := ih _ (List.getElem_mem hj) (by omega)
   have hw := wrap_i64 (n := (j : Int) + 1) (by omega) (by omega)
   obtain ⟨d, hd⟩ : ∃ d, c.kids[j] = d := ⟨_, rfl⟩
   rw [hd] at i2 hco
   have hw2 := wrap_i64 (n := (q : Int) + nfn d) (by omega) (by omega)
   simp [hj, hd]
   refine zac.mk hco ?_
   simp
   refine Abs.Next.mk (j + 1, q + nfn d) [] ⟨by simp only; omega, by simp only; omega⟩ (by simp only; omega) ?_
   simp [hw, hw2]
  ·have hj : j = c.kids.length := by simp at h; omega
   subst hj
   rw [List.drop_length, nfns] at i2
   have i2 : q = R := by omega
   subst i2
   simp
 unfold mc_w13_functions
 simp
 by_cases c5 : c.kind = 5
 ·rw [if_pos c5] at hnq
  simp [c5]
  exact key 1 (by omega) _ [] (by simp)
 ·rw [if_neg c5] at hnq
  simp [c5]
  exact key 0 (by omega) _ [] (by simp)
mutual
theorem zny : ∀ c : Cor, FnOk c
 | .mk k n t is ns ts cs ks => functions_one _ (functionss_ok ks)
theorem functionss_ok : ∀ (l : List Cor) (x : Cor), x ∈ l -> FnOk x
 | [], x, hx => by cases hx
 | c :: l, x, hx => by
  rcases List.mem_cons.1 hx with e | hx
  ·rw [e]; exact zny c
  ·exact functionss_ok l x hx
end
def bump (M : List Int) (x : Int) : List Int := M.set x.toNat (M.getD x.toNat 0 + 1)
def bumps (M l : List Int) : List Int := l.foldl bump M
theorem zyj (M a b : List Int) : bumps M (a ++ b) = bumps (bumps M a) b := by simp [bumps]
@[simp] theorem zyA (M : List Int) (x : Int) : (bump M x).length = M.length := by simp [bump]
theorem zyk : ∀ (l M : List Int), (bumps M l).length = M.length
 | [], M => rfl
 | x :: l, M => by
  have : bumps M (x :: l) = bumps (bump M x) l := rfl
  rw [this, zyk l, zyA]
def Fine (M : List Int) (b : Nat) : Prop := ∀ y, y ∈ M -> 0 <= y /\ y + b <= 1000000000000
theorem Fine.less {M : List Int} {a b : Nat} (h : Fine M a) (hb : b <= a) : Fine M b := fun y hy => by have := h y hy; omega
theorem Fine.bump {M : List Int} {x : Int} {b : Nat} (h : Fine M (b + 1)) : Fine (bump M x) b := fun y hy => by
 unfold Go.Gr.bump at hy
 rcases List.mem_or_eq_of_mem_set hy with hy | e
 ·have := h y hy; omega
 ·subst e
  rw [List.getD_eq_getElem?_getD]
  cases q : M[x.toNat]? with
  | none =>
   rw [List.set_eq_of_length_le (by simpa using q)] at hy
   rw [List.getD_eq_getElem?_getD, q] at hy
   have := h _ hy
   simp at this ⊢
   omega
  | some z =>
   have := h z (List.mem_of_getElem? q)
   simp
   omega
theorem Fine.bumps : ∀ {l M : List Int} {b : Nat}, Fine M (b + l.length) -> Fine (bumps M l) b
 | [], M, b, h => h
 | x :: l, M, b, h => by
  have e : Go.Gr.bumps M (x :: l) = Go.Gr.bumps (Go.Gr.bump M x) l := rfl
  rw [e]
  exact Fine.bumps (Fine.bump (x := x) (by rw [List.length_cons] at h; exact h.less (by omega)))
theorem zyt (c : Cor) : mkC c = (if c.kind = 23 then [c.n] else []) ++ mkCs c.kids := by cases c; rw [mkC]; try rfl
mutual
theorem zys : ∀ c : Cor, (mkC c).length <= csz c
 | .mk k n t is ns ts cs ks => by
  have := zyp ks
  rw [mkC, csz, List.length_append]
  split <;> simp <;> omega
theorem zyp : ∀ l : List Cor, (mkCs l).length <= cszs l
 | [] => by simp [mkCs]
 | c :: l => by
  have := zys c
  have := zyp l
  rw [mkCs, cszs, List.length_append]; omega
end
theorem zyl {l : List Cor} {j : Nat} (h : j < l.length) : mkCs (l.drop j) = mkC l[j] ++ mkCs (l.drop (j + 1)) := by
 rw [List.drop_eq_getElem_cons h, mkCs]
theorem zyu {l : List Cor} {j : Nat} (h : j < l.length) : cszs (l.drop j) = csz l[j] + cszs (l.drop (j + 1)) := by
 rw [List.drop_eq_getElem_cons h, cszs]
abbrev intA (M : List Int) : Blk := .arr 1 ((encI M).map (·.map .d))
def zyg (c : Cor) : Prop := ∀ (a : Nat) (M : List Int), csz c <= 1000000000 -> M.length <= 1000000000 -> (∀ x, x ∈ mkC c -> (a : Int) < x /\ x < M.length) -> Fine M (csz c) ->
 MCall Pg F.w13_makes [.ag (c.enc.map .d), .c (.d (.int .i64 a)), .c (.msl 1 0 0 M.length)] [intA M] (.c (.d (.bool true))) [intA (bumps M (mkC c))]
set_option maxRecDepth 20000 in
theorem zyv (c : Cor) (ih : ∀ x, x ∈ c.kids -> zyg x) : zyg c := fun a M hc hM hin hfi => by
 refine zyr ⟨by simp, by simp, by simp, by simp, by simp, by simp, by simp [live, encI]⟩ fun ts hts ok hbk cx hN hp => ?_
 obtain ⟨t0, rfl⟩ := zaR hts
 have hk := ze9 c.kids
 have hs := zed c
 rw [zyt, zyj]
 rw [zyt] at hin
 obtain ⟨RR, hRR⟩ : ∃ RR, bumps (bumps M (if c.kind = 23 then [c.n] else [])) (mkCs c.kids) = RR := ⟨_, rfl⟩
 rw [hRR]
 have hin2 : ∀ x, x ∈ mkCs c.kids -> (a : Int) < x /\ x < M.length := fun x hx => hin x (List.mem_append_right _ hx)
 have key : ∀ (K : List Int), bumps K (mkCs c.kids) = RR -> K.length = M.length -> Fine K (cszs c.kids) -> ∀ (S : St) (l0 : List Nat), Match l0 S [(7, .c (.d (.int .i64 (0 : Nat)))), (3, .c (.d (.rp c.enc 0))), (2, .c (.msl 1 0 0 M.length)), (1, .c (.d (.int .i64 a)))] [intA K, .pin t0 0] -> lw_ Pg cx zyb (blockQ 0 (thenQ (w_ Pg cx (.seq (.reg [⟨none, some 6, .mv (.k (.bool true))⟩]) .ret) (endM [.tmp 6] (.c (.d (.bool true))) [intA RR] [t0]) ⟨⟩) (endM [.tmp 6] (.c (.d (.bool true))) [intA RR] [t0]))) ⟨⟩ S := fun K hK hKl hKf S l0 h0 => by
  refine W.loop Pg_mixed hp (fun Y : Nat × List Int => Y.1 <= c.kids.length /\ bumps Y.2 (mkCs (c.kids.drop Y.1)) = RR /\ Y.2.length = M.length /\ Fine Y.2 (cszs (c.kids.drop Y.1)) /\ ∀ x, x ∈ mkCs (c.kids.drop Y.1) -> (a : Int) < x /\ x < M.length) (fun Y => [(7, .c (.d (.int .i64 Y.1))), (3, .c (.d (.rp c.enc 0))), (2, .c (.msl 1 0 0 M.length)), (1, .c (.d (.int .i64 a)))]) (fun Y => [intA Y.2, .pin t0 0]) (fun Y => c.kids.length - Y.1) (0, K) l0 ⟨by simp, by simpa using hK, hKl, by simpa using hKf, by simpa using hin2⟩ h0 fun ⟨j, q⟩ ⟨i1, i2, i3, i4, i5⟩ => ?_
  unfold zyb
  simp only at i1 i2 i3 i4 i5
  simp
  refine gd.mk (fun h => ?_) (fun h => ?_)
  ·have hj : j < c.kids.length := by simpa using h
   rw [zyl hj, zyj] at i2
   rw [zyl hj] at i5
   rw [zyu hj] at i4
   have hsj := zik hj
   have hco := ih _ (List.getElem_mem hj) a q (by omega) (by omega) (fun x hx => by rw [i3]; exact i5 x (List.mem_append_left _ hx)) (i4.less (by omega))
   have hw := wrap_i64 (n := (j : Int) + 1) (by omega) (by omega)
   obtain ⟨d, hd⟩ : ∃ d, c.kids[j] = d := ⟨_, rfl⟩
   rw [hd] at i2 i4 i5 hco
   have hmd := zys d
   rw [i3] at hco
   simp [hj, hd]
   refine zaa.mk [0] hco (by simp [encI]) ?_
   simp
   refine Abs.Next.mk (j + 1, bumps q (mkC d)) [0, 1] ⟨by simp only; omega, i2, by simp only; rw [zyk]; exact i3, Fine.bumps (i4.less (by simp only; omega)), fun x hx => i5 x (List.mem_append_right _ hx)⟩ (by simp only; omega) ?_
   simp [hw, encI]
  ·have hj : j = c.kids.length := by simp at h; omega
   subst hj
   rw [List.drop_length, mkCs] at i2
   have i2 : q = RR := i2
   subst i2
   simp
   exact EndM.mk [0] [1] (by simp [encI])
 unfold zye
 simp
 by_cases c23 : c.kind = 23
 ·rw [if_pos c23] at hRR
  have hx := hin c.n (List.mem_append_left _ (by rw [if_pos c23]; simp))
  obtain ⟨k, hkn⟩ : ∃ k : Nat, c.n = k := ⟨c.n.toNat, by omega⟩
  have hkM : k < M.length := by omega
  have eb : bumps M [c.n] = M.set k (M[k] + 1) := by
   show bump M c.n = _
   unfold bump
   rw [hkn, Int.toNat_natCast, List.getD_eq_getElem?_getD, List.getElem?_eq_getElem hkM]
   try rfl
  have hMk := hfi _ (List.getElem_mem hkM)
  have hw := wrap_i64 (n := M[k] + 1) (by omega) (by omega)
  have hf2 : Fine (bumps M [c.n]) (cszs c.kids) := Fine.bumps (hfi.less (show cszs c.kids + 1 <= csz c from by omega))
  have hn1 : ¬ c.n <= a := by omega
  have hn2 : ¬ (M.length : Int) <= c.n := by omega
  rw [eb] at hRR hf2
  rw [hkn] at hn1 hn2
  simp [c23, hkn, hn1, hn2, hkM, hw]
  refine ⟨by decide, ?_⟩
  refine key _ hRR (by simp) hf2 _ [0, 1] ?_
  simp [encI]
  intro x hx
  rcases List.mem_or_eq_of_mem_set hx with hx | e
  ·obtain ⟨y, _, e⟩ := List.mem_map.1 hx
   subst e
   simp
  ·subst e
   simp
 ·rw [if_neg c23] at hRR
  simp [c23]
  exact key M hRR rfl (hfi.less (by omega)) _ [0, 1] (by simp [encI])
mutual
theorem zyq : ∀ c : Cor, zyg c
 | .mk k n t is ns ts cs ks => zyv _ (zym ks)
theorem zym : ∀ (l : List Cor) (x : Cor), x ∈ l -> zyg x
 | [], x, hx => by cases hx
 | c :: l, x, hx => by
  rcases List.mem_cons.1 hx with e | hx
  ·rw [e]; exact zyq c
  ·exact zym l x hx
end
@[simp] theorem Flt.get1 (f : Flt) (h : 1 < f.enc.length) : f.enc[1] = .int .i64 f.caps := rfl
@[simp] theorem Flt.get0 (f : Flt) (h : 0 < f.enc.length) : f.enc[0] = .str f.name := rfl
end Go.Gr
namespace Go.Gr
open Go.Abs Go.Proofs
theorem Run.pre : ∀ {i : Nat} {l lf : List Todo} {fs : List Flt}, Run i l fs lf -> l <+: lf
 | _, _, _, _, .done l => List.prefix_refl l
 | _, _, _, _, .step h r => (List.prefix_append _ _).trans r.pre
theorem Run.len : ∀ {i : Nat} {l lf : List Todo} {fs : List Flt}, Run i l fs lf -> fs.length + i = lf.length
 | _, _, _, _, .done l => by simp
 | _, _, _, _, .step h r => by have := r.len; rw [List.length_cons]; omega
theorem CvI.at {l : List Todo} {i : Nat} {t : Todo} (hI : CvI l i) (h : l[i]? = some t) : ∃ hi : i < l.length, l[i] = t := by
 rcases Nat.lt_or_ge i l.length with q | q
 ·rw [List.getElem?_eq_getElem q] at h
  exact ⟨q, by simpa using h⟩
 ·rw [List.getElem?_eq_none q] at h; cases h
theorem CvI.next {l : List Todo} {i : Nat} {t : Todo} (hI : CvI l i) (h : l[i]? = some t) : CvI (l ++ newT t t.body (t.deep + 1)) (i + 1) := by
 obtain ⟨hi, e⟩ := hI.at h
 obtain ⟨D, hD, hw, hb, _⟩ := (hI.2.1 _ (List.getElem_mem hi)).ex
 have := hI.step hi hD hw hb
 rw [zdm, e] at this
 exact this
theorem Run.good : ∀ {i : Nat} {l lf : List Todo} {fs : List Flt}, Run i l fs lf -> CvI l i -> CvI lf lf.length
 | _, _, _, _, .done l, hI => hI
 | _, _, _, _, .step h r, hI => r.good (hI.next h)
theorem Run.tot : ∀ {i : Nat} {l lf : List Todo} {fs : List Flt}, Run i l fs lf -> CvI l i -> lf.length = l.length + sumT nfn (l.drop i)
 | _, _, _, _, .done l, hI => by simp
 | _, _, _, _, .step (t := t) h r, hI => by
  have h1 := r.tot (hI.next h)
  obtain ⟨hi, e⟩ := hI.at h
  obtain ⟨D, hD, hw, hb, _⟩ := (hI.2.1 _ (List.getElem_mem hi)).ex
  rw [e] at hD hw
  have hc := znH t t.body (D + 1) hw
  have e2 : t.deep + 1 = ((D + 1 : Nat) : Int) := by rw [hD]; omega
  rw [e2] at h1
  rw [List.drop_append_of_le_length (by omega), zgI, List.length_append] at h1
  rw [zie nfn hi, e]
  omega
def awkS : List (ByteArray × ByteArray) := [(bs [109, 97, 105, 110], bs [102, 110, 32, 109, 97, 105, 110, 40, 120, 41, 32, 61, 32, 102, 110, 32, 40, 121, 58, 32, 105, 110, 116, 41, 32, 61, 62, 32, 120, 32, 61, 61, 32, 121, 59])]
def awkB : Bool := (programP awkS).2 && match convP (programP awkS).1 with
 | [a, b] => decide (b.name = bs [109, 97, 105, 110, 46, 109, 97, 105, 110, 39]) && (decide (b.caps = 1) && (decide (b.body.kind = 14) && decide (a.caps = 0)))
 | _ => false
set_option maxRecDepth 100000 in
theorem zr8 : awkB = true := by decide +kernel
theorem ztA : (programP awkS).2 = true /\ ∃ a b : Flt, convP (programP awkS).1 = [a, b] /\ b.name = bs [109, 97, 105, 110, 46, 109, 97, 105, 110, 39] /\ b.caps = 1 /\ b.body.kind = 14 /\ a.caps = 0 := by
 have h := zr8
 unfold awkB at h
 rw [Bool.and_eq_true] at h
 refine ⟨h.1, ?_⟩
 have h2 := h.2
 split at h2
 ·rename_i a b e
  simp only [Bool.and_eq_true, decide_eq_true_eq] at h2
  exact ⟨a, b, e, h2⟩
 ·cases h2
@[simp] theorem Flt.get2 (f : Flt) (h : 2 < f.enc.length) : f.enc[2] = .int .i64 f.body.kind := by
 have : f.enc = .str f.name :: .int .i64 f.caps :: f.body.enc := rfl
 simp only [this, f.body.enc_eq]
 rfl
@[simp] theorem Prg.get0 (p : Prg) (h : 0 < p.enc.length) : p.enc[0] = .sl false 13 (p.funs.map Fun.enc) := rfl
@[simp] theorem Flt.cut_body (f : Flt) : cut f.enc 2 8 = f.body.enc := by unfold Flt.enc; rw [f.body.enc_eq]; try rfl
set_option maxRecDepth 20000 in
theorem zqI : PCall Pg F.w13_awake [] (.one (.bool true)) := by
 refine zoR (by simp) fun o cx hN hp => ?_
 obtain ⟨h1, a, b, h2, h3, h4, h5, h6⟩ := ztA
 have mp := PCall.erd (args := [.one (.sl true 2 [[.str (bs [109, 97, 105, 110]), .str (bs [102, 110, 32, 109, 97, 105, 110, 40, 120, 41, 32, 61, 32, 102, 110, 32, 40, 121, 58, 32, 105, 110, 116, 41, 32, 61, 62, 32, 120, 32, 61, 61, 32, 121, 59])]])]) (zlb awkS) (by simp [DV.erds, DV.erd, D.erd, D.erdE, D.erdL, awkS, srcE])
 have hc := zk4 _ (programP_good awkS)
 rw [h2] at hc
 generalize programP awkS = r at *
 unfold zhH
 simp
 refine zac.mk mp ?_
 simp [h1]
 refine zac.mk hc ?_
 simp [h3, h4, h5, h6]
end Go.Gr
namespace Go.Gr
open Go.Abs Go.Proofs
theorem Run.inv {i : Nat} {l lf : List Todo} {f : Flt} {fs : List Flt} (r : Run i l (f :: fs) lf) : ∃ t, l[i]? = some t /\ f = ⟨t.name, t.caps.length, (za9 t t.body (t.deep + 1) l).1⟩ /\ Run (i + 1) (l ++ newT t t.body (t.deep + 1)) fs lf := by
 cases r with
 | step h r => exact ⟨_, h, rfl, r⟩
theorem Run.end_ {i : Nat} {l lf : List Todo} (r : Run i l [] lf) : l = lf /\ i = l.length := by
 cases r with
 | done => exact ⟨rfl, rfl⟩
def zx8 (nf N cur : Nat) : List Int := (List.range N).map fun j => if nf <= j /\ j < cur then 1 else 0
@[simp] theorem zyn (nf N cur : Nat) : (zx8 nf N cur).length = N := by simp [zx8]
theorem zyd {nf N cur j : Nat} (h : j < (zx8 nf N cur).length) : (zx8 nf N cur)[j] = if nf <= j /\ j < cur then 1 else 0 := by simp [zx8]
theorem zyw {nf N cur : Nat} (h : nf <= cur) (hc : cur < N) : bump (zx8 nf N cur) cur = zx8 nf N (cur + 1) := by
 unfold bump
 rw [Int.toNat_natCast, List.getD_eq_getElem?_getD, List.getElem?_eq_getElem (by simpa using hc), zyd]
 refine List.ext_getElem (by simp) fun j h1 h2 => ?_
 rw [zyd, List.getElem_set]
 split
 ·rename_i e
  subst e
  rw [if_neg (by omega), if_pos ⟨h, by omega⟩]
  try rfl
 ·rw [zyd]
  by_cases q : nf <= j /\ j < cur
  ·rw [if_pos q, if_pos ⟨q.1, by omega⟩]
  ·rw [if_neg q, if_neg (by omega)]
theorem zyh {nf N : Nat} : ∀ (k cur : Nat), nf <= cur -> cur + k <= N -> bumps (zx8 nf N cur) (rngI cur k) = zx8 nf N (cur + k)
 | 0, cur, h, hc => rfl
 | k + 1, cur, h, hc => by
  have e : rngI cur (k + 1) = (cur : Int) :: rngI (cur + 1) k := rfl
  have e2 : bumps (zx8 nf N cur) ((cur : Int) :: rngI (cur + 1) k) = bumps (bump (zx8 nf N cur) cur) (rngI (cur + 1) k) := rfl
  rw [e, e2, zyw h (by omega), zyh k (cur + 1) (by omega) (by omega)]
  congr 1
  omega
theorem zyx (nf N cur : Nat) {b : Nat} (hb : b <= 500000000) : Fine (zx8 nf N cur) b := fun y hy => by
 unfold zx8 at hy
 obtain ⟨j, _, e⟩ := List.mem_map.1 hy
 subst e
 split <;> omega
theorem zyB {s n : Nat} {x : Int} (h : x ∈ rngI s n) : (s : Int) <= x /\ x < s + n := by
 unfold rngI at h
 obtain ⟨j, hj, e⟩ := List.mem_map.1 h
 rw [List.mem_range'_1] at hj
 omega
theorem zyy (n N : Nat) : zx8 n N n = List.replicate N 0 := by
 refine List.ext_getElem (by simp) fun j h1 h2 => ?_
 rw [zyd, if_neg (by omega), List.getElem_replicate]
@[simp] theorem Fun.cut_bodyD (f : Fun) : cut f.enc 5 8 = f.body.enc := by unfold Fun.enc; rw [f.type.enc_eq, f.body.enc_eq]; try rfl
set_option maxRecDepth 20000 in
set_option maxHeartbeats 1000000 in
theorem ClosCounts_ok (l : List (ByteArray × ByteArray)) : PCall Pg F.w13_ClosCounts [.one (.sl false 2 (l.map srcE))] (.one (.bool true)) := by
 refine zyf (by simp) fun o cx hN hp => ?_
 have hpr := zlb l
 have hg := programP_good l
 generalize programP l = r at *
 obtain ⟨p, ok⟩ := r
 simp only at hg
 have hcv := zk4 p hg
 obtain ⟨lf, hrun⟩ := zrl hg
 generalize convP p = F at *
 unfold zyc
 simp
 refine zac.mk zqI ?_
 simp
 refine zac.mk hpr ?_
 simp
 by_cases hok : ok = true
 rotate_left
 ·simp [hok]
 have hst := CvI.start hg
 have hgf := hrun.good hst
 have hlen := hrun.len
 have h500 := hgf.2.2
 have hF : F.length <= 500000000 := by omega
 have hpl := hg.2
 obtain ⟨N, hN2⟩ : ∃ N, p.funs.length + nfns (p.funs.map (·.body)) = N := ⟨_, rfl⟩
 have hFN : F.length = N := by
  have h1 := hrun.tot hst
  have key : ∀ l : List Fun, nfns (l.map (·.body)) = sumT nfn (l.map todo0) := fun l => by
   induction l with
   | nil => rfl
   | cons f l ih => rw [List.map_cons, List.map_cons, nfns, ih, zma]; try rfl
  rw [List.drop_zero, <- key, List.length_map] at h1
  omega
 simp [hok]
 refine W.loop Pg_mixed hp (fun Y : Nat × Nat => Y.1 <= p.funs.length /\ Y.2 + nfns ((p.funs.map (·.body)).drop Y.1) = N) (fun Y => [(7, .c (.d (.int .i64 Y.1))), (6, .c (.d (.int .i64 Y.2))), (4, .c (.ptr 0 0))]) (fun _ => [.box (p.enc.map .d)]) (fun Y => p.funs.length - Y.1) (0, p.funs.length) [0] ⟨by simp, by simpa using hN2⟩ (by simp) fun ⟨j, s⟩ ⟨i1, i2⟩ => ?_
 unfold lp_w13_ClosCounts_0
 simp only at i1 i2
 simp
 refine gd.mk (fun h => ?_) (fun h => ?_)
 ·have hj : j < p.funs.length := by simpa using h
  have hw := wrap_i64 (n := (j : Int) + 1) (by omega) (by omega)
  have hfg := hg.1 _ (List.getElem_mem hj)
  have hjm : j < (p.funs.map (·.body)).length := by simpa using hj
  rw [zrL hjm, List.getElem_map] at i2
  obtain ⟨f, hf⟩ : ∃ f, p.funs[j] = f := ⟨_, rfl⟩
  rw [hf] at hfg i2
  have hfn := zny f.body (by have := hfg.1.2; omega)
  have hw2 := wrap_i64 (n := (s : Int) + nfn f.body) (by omega) (by omega)
  simp [hj, hf]
  refine zac.mk hfn ?_
  simp
  refine Abs.Next.mk (j + 1, s + nfn f.body) [0] ⟨by simp only; omega, by simp only; omega⟩ (by simp only; omega) ?_
  simp [hw, hw2]
 ·have hj : j = p.funs.length := by simp at h; omega
  subst hj
  have i3 : s = N := by
   rw [List.drop_eq_nil_of_le (by simp), nfns] at i2
   omega
  subst i3
  try simp
  refine zac.mk hcv ?_
  simp [hFN]
  refine ⟨by omega, ?_⟩
  have hmz : encI (zx8 p.funs.length s p.funs.length) = List.replicate s [D.int .i64 0] := by rw [zyy, encI, List.map_replicate]
  refine W.loop Pg_mixed hp (fun Y : Nat × List Todo => Y.1 <= F.length /\ CvI Y.2 Y.1 /\ p.funs.length <= Y.2.length /\ Run Y.1 Y.2 (F.drop Y.1) lf) (fun Y => [(10, .c (.d (.int .i64 Y.1))), (9, .c (.msl 1 1 0 s)), (8, .c (.d (.sl false 10 (F.map Flt.enc)))), (6, .c (.d (.int .i64 s))), (4, .c (.ptr 0 0))]) (fun Y => [.box (p.enc.map .d), intA (zx8 p.funs.length s Y.2.length)]) (fun Y => F.length - Y.1) (0, p.funs.map todo0) [0, 1] ⟨by simp, hst, by simp, by simpa using hrun⟩ (by simp [hmz]) fun ⟨i, q⟩ ⟨j1, j2, j3, j4⟩ => ?_
  unfold zx9
  simp only at j1 j2 j3 j4
  simp
  refine gd.mk (fun h => ?_) (fun h => ?_)
  ·have hi : i < F.length := by simpa using h
   have hw := wrap_i64 (n := (i : Int) + 1) (by omega) (by omega)
   rw [List.drop_eq_getElem_cons hi] at j4
   obtain ⟨t, t1, t2, t3⟩ := j4.inv
   obtain ⟨hiq, hq⟩ := j2.at t1
   have hgt := j2.2.1 _ (List.getElem_mem hiq)
   rw [hq] at hgt
   obtain ⟨D, hD, hwf, hb, _⟩ := hgt.ex
   have hnx := j2.next t1
   have e2 : t.deep + 1 = ((D + 1 : Nat) : Int) := by rw [hD]; omega
   have hpre := t3.pre.length_le
   have hcs := zlO t t.body (t.deep + 1) q
   have hmk := zyo t t.body (D + 1) q hwf
   rw [<- e2] at hmk
   obtain ⟨f, hf⟩ : ∃ f, F[i] = f := ⟨_, rfl⟩
   rw [hf] at t2
   have hfb : f.body = (za9 t t.body (t.deep + 1) q).1 := by rw [t2]
   rw [<- hfb] at hcs hmk
   rw [List.length_append] at hpre
   have hbm := zyh (nf := p.funs.length) (N := s) (newT t t.body (t.deep + 1)).length q.length j3 (by omega)
   have mk := zyq f.body i (zx8 p.funs.length s q.length) (by omega) (by simp; omega) (fun x hx => by
    rw [hmk] at hx
    have := zyB hx
    simp only [zyn]
    omega) (zyx _ _ _ (by omega))
   rw [hmk, hbm, zyn] at mk
   have hq2 : p.funs.length <= (q ++ newT t t.body (t.deep + 1)).length := by rw [List.length_append]; omega
   rw [<- List.length_append] at mk
   generalize q ++ newT t t.body (t.deep + 1) = q2 at *
   simp [hi, hf]
   refine zaa.mk [1] mk (by simp) ?_
   simp
   refine Abs.Next.mk (i + 1, q2) [0, 1] ⟨by simp only; omega, hnx, hq2, t3⟩ (by simp only; omega) ?_
   simp [hw]
  ·have hi : i = F.length := by simp at h; omega
   subst hi
   rw [List.drop_length] at j4
   obtain ⟨e1, e2⟩ := j4.end_
   have hqs : q.length = s := by omega
   rw [hqs]
   simp
   refine W.loop Pg_mixed hp (fun j : Nat => j <= s) (fun j => [(11, .c (.d (.int .i64 j))), (9, .c (.msl 1 1 0 s)), (6, .c (.d (.int .i64 s))), (4, .c (.ptr 0 0))]) (fun _ => [.box (p.enc.map .d), intA (zx8 p.funs.length s s)]) (fun j => s - j) 0 [0, 1] (by simp) (by simp) fun j h1 => ?_
   unfold zya
   simp
   refine gd.mk (fun h => ?_) (fun h => ?_)
   ·have hj : j < s := by simpa using h
    have hw := wrap_i64 (n := (j : Int) + 1) (by omega) (by omega)
    have hat := zyd (nf := p.funs.length) (N := s) (cur := s) (j := j) (by simpa using hj)
    by_cases hjp : j < p.funs.length
    ·rw [if_neg (by omega)] at hat
     have hjq : ¬ p.funs.length <= j := by omega
     simp [hj, hat, hjp, hjq, encI]
     refine Abs.Next.mk (j + 1) [0, 1] (by omega) (by omega) ?_
     simp [hw, encI]
    ·rw [if_pos (by omega)] at hat
     have hjq : p.funs.length <= j := by omega
     simp [hj, hat, hjp, hjq, encI]
     refine Abs.Next.mk (j + 1) [0, 1] (by omega) (by omega) ?_
     simp [hw, encI]
   ·simp
end Go.Gr
namespace Go.Gr
open Go.Abs Go.Proofs
theorem zvl {n : Nat} {ds : List D} (h : zaT Tryz.prog n 53 ds) : ∃ x : ByteArray × ByteArray, ds = srcE x := by
 obtain ⟨m, _, h⟩ := zoe Tryz.underlying53 h
 obtain ⟨a, b, rfl, ha, h⟩ := zkR h
 obtain ⟨c, d, rfl, hc, h⟩ := zkR h
 obtain rfl := zsp h
 obtain ⟨s, rfl⟩ := zmx Tryz.underlying9 ha
 obtain ⟨i, rfl⟩ := zmx Tryz.underlying9 hc
 exact ⟨(s, i), rfl⟩
theorem zuC {n : Nat} {ds : List D} (h : zaT Tryz.prog n 22 ds) : ∃ l : List (ByteArray × ByteArray), ds = [.sl false 2 (l.map srcE)] :=
 zo9 (enc := srcE) Tryz.underlying22 (by kernel_rfl) (fun m _ x hx => zvl hx) h
def types : List TypeId := [3, 4, 9, 22, 53]
theorem own : ownKnob Tryz.prog.godebug = none := by kernel_rfl
theorem laidOut : laidOutB Tryz.prog = true := by kernel_rfl
theorem typesOk : (types.all fun t => zgT Tryz.prog types t && Tryz.prog.readableRec t && decide (t < Tryz.prog.types.size)) = true := by kernel_rfl
theorem noGnd : Tryz.prog.globalNamed "strings.asciiSpace" = none := by kernel_rfl
theorem zv1 : Abs.isAgg Tryz.prog 22 = false := by kernel_rfl
theorem args22 {dvs : List DV} (h : zh3 Tryz.prog [22] dvs) : ∃ l : List (ByteArray × ByteArray), dvs = [.one (.sl false 2 (l.map srcE))] := by
 match dvs, h with
 | a :: r, h =>
  simp only [zh3, zv1, dvOf] at h
  obtain ⟨⟨n, x, h1, rfl⟩, rfl⟩ := h
  obtain ⟨l, rfl⟩ := zuC h1
  exact ⟨l, rfl⟩
end Go.Gr
