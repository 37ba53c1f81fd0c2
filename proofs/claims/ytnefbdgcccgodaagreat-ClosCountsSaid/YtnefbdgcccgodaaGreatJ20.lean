/- Texts of ours, joined and written short by a program of ours. -/
import Derived.Test.YtnefbdgcccgodaaGreatJ19
import Derived.Test.YtnefbdgcccgodaaGreatJ11
set_option linter.unusedVariables false
set_option linter.unusedSimpArgs false
namespace Go.Gr
open Go.Abs Go.Proofs
section
variable (L : Lnk)
abbrev ck9 (s : CS) : List Blk := [ckBx L s 6 7 8, tbB 256 s.tab.length 9, .dead, .dead, .dead, .dead, funA s.funs, sitA s.sites, diaA s.bad, tabA s.tab]
theorem zkJ (l : List Typ) (i : Nat) (s : ByteArray) (h : i < l.length) : zcm (l.drop i) i s = zcm (l.drop (i + 1)) (i + 1) (s ++ (if i = 0 then bs [91] else bs [44, 32]) ++ zdb l[i]) := by
 rw [List.drop_eq_getElem_cons h, zcm]
abbrev ckB (L : Lnk) (s : CS) (vD wD : D) (tb a b d : Nat) : Blk := .box [.d (.sl false 1 (encS L.names)), .d (.sl false 2 (L.mods.map Mdl.enc)), .d (.sl false 1 (L.scopes.map scpE)), .d (.str L.main.name), .d (.int .i64 L.main.module), .d (.int .i64 L.main.decl), .ptr tb 0, .msl 13 a 0 s.funs.length, .d (.int .i64 s.main), .msl 3 b 0 s.sites.length, .msl 4 d 0 s.bad.length, .d (.int .i64 s.module), .d vD, .d wD, .d (.int .i64 s.e), .d (.int .i64 s.line), .d (.int .i64 s.col)]
abbrev ck5 (L : Lnk) (s : CS) (vD wD : D) : List Blk := [ckB L s vD wD 1 2 3 4, tbB 256 s.tab.length 5, funA s.funs, sitA s.sites, diaA s.bad, tabA s.tab]
theorem znT (a b : Int) : (Nod.mk 0 (bs []) 0 a b [] [] []).enc = [.int .i64 0, .str (bs []), .int .i64 0, .int .i64 a, .int .i64 b, .sl false 4 [], .sl false 1 [], .sl false 8 []] := rfl
@[simp] theorem cut_body (d : Dec) : cut (d.enc.map AC.d) 5 8 = d.body.enc.map AC.d := by
 obtain ⟨a, b, c, e, f, g, h, i⟩ := d
 cases g; rfl
abbrev row13 (z : ByteArray) : List AC := [.d (.str z), .d (.int .i64 0), .d (.str (bs [])), .d (.sl true 1 []), .d (.sl true 4 []), .d (.int .i64 0), .d (.int .i64 0), .d (.str (bs [])), .d (.sl true 1 []), .d (.sl true 1 []), .d (.sl true 4 []), .d (.sl true 5 []), .d (.sl true 8 [])]
theorem ziu (z : ByteArray) (T : Typ) : 13 <= (splice (row13 z) 1 (T.enc.map AC.d)).length := by
 rw [zbg]; exact Nat.le_refl _
theorem ziv (z : ByteArray) (T : Typ) (b : Cor) : put (splice (row13 z) 1 (T.enc.map AC.d)) 5 (b.enc.map AC.d) = (Fun.enc ⟨z, T, b⟩).map AC.d := by
 unfold Fun.enc; rw [T.enc_eq, b.enc_eq]; try rfl
abbrev fnB0 (L : Lnk) (s : CS) (P : List Blk) (d : Dec) (a b T : Typ) (E : List Blk) : List Blk := ck6 L s ++ (P ++ [.box (d.enc.map .d), .box [.d (.int .i64 0), .d (.str (bs [])), .d (.int .i64 0), .d (.int .i64 d.line), .d (.int .i64 d.col), .d (.sl true 4 []), .d (.sl true 1 []), .d (.sl true 8 [])], .box (a.enc.map .d), .box (b.enc.map .d), .dead, .box (T.enc.map .d)] ++ E)
theorem St.cut {F : St -> Prop} {t : List (Nat × AV)} {m : Hp} {n : Nat} (ts : List (Nat × AV)) (bs : List Blk) (ht : ∀ p, p ∈ ts -> Abs.look t p.1 = p.2) (hm : ∀ i, m i = hpOf bs i) (h : ∀ T, (∀ p, p ∈ ts -> Abs.look T p.1 = p.2) -> F ⟨T, hpOf bs, n⟩) : F ⟨t, m, n⟩ := by
 have e : m = hpOf bs := funext hm
 subst e
 exact h t ht
abbrev fnTs (X : Ist) (j : Nat) (z : ByteArray) : List (Nat × AV) := [(13, .c (.d (.int .i64 j))), (12, .c (.d (.str z))), (10, .c (.ptr 7 0)), (8, .c (.ptr 6 0)), (3, .c (.d (.rp X.enc 0))), (0, .c (.ptr 0 0))]
abbrev fnBs (L : Lnk) (s : CS) (P : List Blk) (T : Typ) (z : Cor) : List Blk := [ckBx L s 2 8 3, tbB 256 s.tab.length 9, funA s.funs, diaA s.bad] ++ (P ++ [.box (T.enc.map .d), .box (z.enc.map .d), sitA s.sites, tabA s.tab])
set_option maxRecDepth 20000 in
set_option maxHeartbeats 4000000 in
theorem znU (hF : LinkG L) (X : Ist) (hX : EntOk L ⟨bs [], X.module, X.decl⟩) (hXt : X.types.length <= 1000000) (s0 : CS) (vD wD : D) (k : Nat) (hs : SOk L (startC L X s0) (8 * 30001 + 1 + k)) :
  MCall Pg F.gc_function [.c (.ptr 0 0), .ag (X.enc.map .d)] (ck5 L s0 vD wD) (.tup []) (ck9 L (funC L X s0)) := by
 refine zlC ⟨by simp, by simp, by simp, by simp, by simp, by simp, by simp [live]⟩ fun ts hts ok hbk c hN hp => ?_
 obtain ⟨t, u, v, w, x, y, rfl⟩ := zaO hts
 have hdG := (zdC hF hX).1
 have hdn := (zdC hF hX).2
 obtain ⟨mn, kn, M, e1, e2, g1, g2, hd⟩ := zfH hF.good hX
 have hb1 := zaB 1
 unfold funC
 unfold startC at hs
 simp only
 generalize hdd : decAt L X.module X.decl = d at *
 have hv := zpY d hd.vars
 obtain ⟨ta, tb, hty⟩ := zjS hd.types
 have e3 : d.types.getD 0 noT = ta := by rw [hty]; try rfl
 have e4 : d.types.getD 1 noT = tb := by rw [hty]; try rfl
 rw [e3, e4]
 obtain ⟨s, hss⟩ : ∃ s : CS, { s0 with module := X.module, vars := d.vars.map (·.1), wth := X.types, e := 0 } = s := ⟨_, rfl⟩
 have m1 := zca L ta d.line d.col s (by rw [<- hss] at *; exact hs.wth)
 rw [hss] at hs ⊢
 have p1 := zaW hs ta d.line d.col
 generalize zay ta d.line d.col s = r1 at *
 have m2 := zca L tb d.line d.col r1.2 p1.1.wth
 have p2 := zaW p1.1 tb d.line d.col
 generalize zay tb d.line d.col r1.2 = r2 at *
 unfold mc_gc_function
 have b0 : ck6 L s = ck6 L { s0 with module := X.module, vars := d.vars.map (·.1), wth := X.types, e := 0 } := by rw [hss]
 rw [b0] at m1
 simp [e1, e2, g1, g2]
 refine ⟨by decide, ?_⟩
 refine zac.mk hv ?_
 simp [hty]
 refine zaa.mk [0, 1, 2, 3, 4, 5] m1 (by simp [e1]) ?_
 simp [hty]
 refine ⟨by decide, ?_⟩
 refine zaa.mk [0, 1, 2, 3, 4, 5] m2 (by simp) ?_
 simp
 refine ⟨by decide, ?_⟩
 have hfits := zpz (bT 1) r1.1
 generalize zfA (bT 1) r1.1 = ft at *
 have mm := MCall.erd (args := [.c (.ptr 0 0), .ag [.d (.int .i64 6), .d (.str (bs [])), .d (.sl true 1 []), .d (.sl false 4 [r1.1.enc, r2.1.enc])], .ag [.d (.int .i64 0), .d (.str (bs [])), .d (.int .i64 0), .d (.int .i64 d.line), .d (.int .i64 d.col), .d (.sl true 4 []), .d (.sl true 1 []), .d (.sl true 8 [])]]) (zdh L (fnT r1.1 r2.1) (.mk 0 (bs []) 0 d.line d.col [] [] []) r2.2) (by simp [AV.erds, AV.erd, AC.erd, D.erd, D.erdL, D.erdE, fnT, zaj, zae, zal, encS, Nod.enc, Nod.encs, znT])
 simp only [Nod.line, Nod.col] at mm
 have pm := ze2 p2.1 (fnT r1.1 r2.1) d.line d.col
 have fin : ∀ q : CS, SOk L q (8 * 30001 + 1 + k) -> MCall Pg F.gc_at [.c (.ptr 0 0), .ag [.d (.int .i64 0), .d (.str (bs [])), .d (.int .i64 0), .d (.int .i64 d.line), .d (.int .i64 d.col), .d (.sl true 4 []), .d (.sl true 1 []), .d (.sl true 8 [])], .c (.d (.int .i64 14))] (ck6 L q) (.tup []) (ck6 L (zaM d.line d.col 14 q)) /\ SOk L (zaM d.line d.col 14 q) (8 * 30001 + 1 + k) := fun q hq => ⟨MCall.erd (zbO L (.mk 0 (bs []) 0 d.line d.col [] [] []) 14 q) (by simp [AV.erds, AV.erd, AC.erd, D.erd, D.erdL, D.erdE, encS, znT]), zbi hq _ _ _⟩
 have hne : EOk [(d.param, r1.1)] (nsz d.body) := ⟨by have := hdG.size; simp; omega, fun v hv => by simp at hv; subst hv; exact p1.2⟩
 have hi := zjq L hF.good d.body hdG.body
 have minf : ∀ q : CS, SOk L q (8 * 30001 + 1 + k) -> MCall Pg F.gc_Infer [.c (.ptr 0 0), .ag (d.body.enc.map .d), .c (.d (.sl true 5 [.str d.param :: r1.1.enc]))] (ck6 L q) (infA (zao L d.body [(d.param, r1.1)] q).1.1 (zao L d.body [(d.param, r1.1)] q).1.2) (ck8 L (zao L d.body [(d.param, r1.1)] q).2) /\ SOk L (zao L d.body [(d.param, r1.1)] q).2 (1 + k) := fun q hq => ⟨MCall.erd (hi.1 [(d.param, r1.1)] q (1 + k) hne (hq.less (by have := hdG.size; omega))) (by simp [AV.erds, AV.erd, AC.erd, D.erd, D.erdL, D.erdE, encV]), (hi.2 [(d.param, r1.1)] q (1 + k) hne (hq.less (by have := hdG.size; omega))).1⟩
 have hnm : ∃ nm, L.names.getD X.module.toNat (bs []) = nm /\ L.names[mn]? = some nm := by
  rw [e1]
  simp only [Int.toNat_natCast]
  have : mn < L.names.length := by have := hF.good.names; have := hX.m1; simp only at this; omega
  exact ⟨L.names[mn], by rw [List.getD_eq_getElem?_getD, List.getElem?_eq_getElem this]; rfl, List.getElem?_eq_getElem this⟩
 obtain ⟨nm, hnm1, hnm2⟩ := hnm
 have hnz := hF.modNames nm (List.mem_of_getElem? hnm2)
 rw [hnm1]
 obtain ⟨R, hR⟩ : ∃ R, zcm X.types 0 (nm ++ bs [46] ++ d.name) = R := ⟨_, rfl⟩
 rw [hR]
 by_cases q0 : r2.2.e = 0
 ·rw [if_pos q0]
  generalize zbo (fnT r1.1 r2.1) d.line d.col r2.2 = T at *
  simp [q0]
  refine fzK.mk [16] ?_
  simp [zas]
  refine zaa.mk [0, 1, 2, 3, 4, 5] mm (by simp [q0]) ?_
  simp
  refine owK.mk [] ?_
  simp
  refine zac.mk hb1 ?_
  simp
  refine zac.mk hfits ?_
  simp
  refine ⟨by decide, ?_⟩
  refine fzK.mk [] ?_
  simp only [zn6, zrF, if_pos, if_neg, reduceIte, Nat.reduceEqDiff, zhY, zsd, Blk.fz_arr, zkO, zpQ]
  refine St.cut (F := w_ Pg c _ _ _) [(0, .c (.ptr 0 0)), (3, .c (.d (.rp X.enc 0))), (4, .c (.ptr 12 0)), (5, .c (.ptr 13 0)), (6, .c (.ptr 14 0)), (7, .c (.ptr 15 0)), (8, .c (.ptr 17 0)), (9, .c (.d (.bool ft)))] (fnB0 L T.2 [.pin t 0, .pin u 1, .pin v 2, .pin w 3, .pin x 4, .pin y 5] d r1.1 r2.1 (T.1) []) ?_ ?_ fun T' hT => ?_
  ·simp [zas]
  ·intro i
   by_cases q : i < 18
   ·rcases (show i = 0 \/ i = 1 \/ i = 2 \/ i = 3 \/ i = 4 \/ i = 5 \/ i = 6 \/ i = 7 \/ i = 8 \/ i = 9 \/ i = 10 \/ i = 11 \/ i = 12 \/ i = 13 \/ i = 14 \/ i = 15 \/ i = 16 \/ i = 17 from by omega) with rfl | rfl | rfl | rfl | rfl | rfl | rfl | rfl | rfl | rfl | rfl | rfl | rfl | rfl | rfl | rfl | rfl | rfl <;> simp [zas]
   ·refine Eq.trans (b := Blk.non) ?_ (zcH (by simp; omega)).symm
    try simp [show i ≠ 0 from by omega, show i ≠ 1 from by omega, show i ≠ 2 from by omega, show i ≠ 3 from by omega, show i ≠ 4 from by omega, show i ≠ 5 from by omega, show i ≠ 6 from by omega, show i ≠ 7 from by omega, show i ≠ 8 from by omega, show i ≠ 9 from by omega, show i ≠ 10 from by omega, show i ≠ 11 from by omega, show i ≠ 12 from by omega, show i ≠ 13 from by omega, show i ≠ 14 from by omega, show i ≠ 15 from by omega, show i ≠ 16 from by omega, show i ≠ 17 from by omega]
    rw [zcH (show 12 <= i from by omega)]
    try rfl
  simp only [List.forall_mem_cons, List.not_mem_nil, false_implies, implies_true, and_true] at hT
  obtain ⟨l0, l3, l4, l5, l6, l7, l8, l9⟩ := hT
  simp [l0, l3, l4, l5, l6, l7, l8, l9]
  have P5 := pm.1
  generalize T.1 = Ty at *
  generalize T.2 = S2 at *
  obtain ⟨S5, pa, hS5⟩ : ∃ S5, SOk L S5 (8 * 30001 + 1 + k) /\ (if X.module = L.main.module /\ X.decl = L.main.decl /\ ft = false then zaM d.line d.col 14 S2 else S2) = S5 := by
   split
   ·exact ⟨_, (fin S2 P5).2, rfl⟩
   ·exact ⟨_, P5, rfl⟩
  rw [hS5]
  by_cases cm : X.module = L.main.module
  rotate_left
  rw [if_neg (fun z => cm z.1)] at hS5
  subst hS5
  simp [cm, l0, l3, l4, l5, l6, l7, l8, l9]
  refine ⟨by decide, ?_⟩
  generalize S2 = S5 at *
  rotate_left
  by_cases cd : X.decl = L.main.decl
  rotate_left
  rw [if_neg (fun z => cd z.2.1)] at hS5
  subst hS5
  simp [cm, cd, l0, l3, l4, l5, l6, l7, l8, l9]
  refine ⟨by decide, ?_⟩
  generalize S2 = S5 at *
  rotate_left
  rotate_left
  by_cases cf : ft = true
  rw [if_neg (fun z => by rw [cf] at z; simp at z)] at hS5
  subst hS5
  simp [cm, cd, cf, l0, l3, l4, l5, l6, l7, l8, l9]
  refine ⟨by decide, ?_⟩
  generalize S2 = S5 at *
  rotate_left
  rw [if_pos ⟨cm, cd, by simpa using cf⟩] at hS5
  have ma := (fin S2 P5).1
  rw [hS5] at ma
  simp [cm, cd, cf, l0, l3, l4, l5, l6, l7, l8, l9]
  refine ⟨by decide, ?_⟩
  refine zaa.mk [0, 1, 2, 3, 4, 5] ma (by simp [l0, l3, l4, l5, l6, l7, l8, l9]) ?_
  simp [l0, l3, l4, l5, l6, l7, l8, l9]
  all_goals
   have mi := (minf S5 pa).1
   have pi := (minf S5 pa).2
   generalize zao L d.body [(d.param, r1.1)] (S5) = r3 at *
   have mc := zbn L r3.1.1 r3.1.2 r2.1 d.body r3.2 (by have := pi.sites; omega)
   have pc := coerceC_ok (b := k) (pi.less (by omega)) r3.1.1 r3.1.2 r2.1 d.body.line d.body.col
   generalize zaG r3.1.1 r3.1.2 r2.1 d.body.line d.body.col r3.2 = r4 at *
   refine zaa.mk [0, 1, 2, 3, 4, 5] mi (by simp [l0, l3, l4, l5, l6, l7, l8, l9]) ?_
   simp [l0, l3, l4, l5, l6, l7, l8, l9]
   refine zaa.mk [0, 1, 2, 18, 4, 19] mc (by simp [l0, l3, l4, l5, l6, l7, l8, l9]) ?_
   simp [e1, hnm2, l0, l3, l4, l5, l6, l7, l8, l9]
   refine ⟨by unfold zak; omega, by unfold zak; omega, by decide, ?_⟩
   refine W.loop Pg_mixed hp (fun Y : Nat × ByteArray => Y.1 <= X.types.length /\ Y.2.size <= 100 + Y.1 * 20010 /\ zcm (X.types.drop Y.1) Y.1 Y.2 = R) (fun Y => fnTs X Y.1 Y.2) (fun _ => fnBs L r4.2 [.pin t 0, .pin u 1] Ty r4.1) (fun Y => X.types.length - Y.1) (0, nm ++ bs [46] ++ d.name) [0, 1, 2, 4, 6, 7, 17, 20, 22, 19] ⟨by simp, by simp only [ByteArray.size_append, zcM, List.length_cons, List.length_nil]; omega, by simpa using hR⟩ (by simp [l0, l3, l4, l5, l6, l7, l8, l9]) fun ⟨j, z⟩ ⟨i1, i3, i2⟩ => ?_
   unfold lp_gc_function_0
   simp only at i1 i3 i2
   simp
   refine gd.mk (fun h => ?_) (fun h => ?_)
   ·have hj : j < X.types.length := by simpa using h
    rw [zkJ _ _ _ hj] at i2
    obtain ⟨q, hq⟩ : ∃ q, X.types[j] = q := ⟨_, rfl⟩
    rw [hq] at i2
    have hw := wrap_i64 (n := (j : Int) + 1) (by have := hXt; omega) (by have := hXt; omega)
    have hsq := zgx q
    by_cases j0 : j = 0
    ·subst j0
     simp [hj, hq]
     refine ⟨by unfold zak; omega, ?_⟩
     refine zac.mk (zim q) ?_
     simp
     refine ⟨by unfold zak; omega, ?_⟩
     refine Abs.Next.mk (0 + 1, z ++ bs [91] ++ zdb q) [0, 1, 2, 3, 4, 5, 6, 7, 8, 9] ⟨by simp only; omega, by simp only [ByteArray.size_append, zcM, List.length_cons, List.length_nil]; omega, by simpa using i2⟩ (by simp only; omega) ?_
     simp [show IntKind.i64.wrap 1 = 1 from by decide]
    ·rw [if_neg j0] at i2
     simp [hj, hq, j0]
     refine ⟨by unfold zak; omega, ?_⟩
     refine zac.mk (zim q) ?_
     simp
     refine ⟨by unfold zak; omega, ?_⟩
     refine Abs.Next.mk (j + 1, z ++ bs [44, 32] ++ zdb q) [0, 1, 2, 3, 4, 5, 6, 7, 8, 9] ⟨by simp only; omega, by simp only [ByteArray.size_append, zcM, List.length_cons, List.length_nil]; omega, i2⟩ (by simp only; omega) ?_
     simp [hw]
   have hj : j = X.types.length := by simp at h; omega
   subst hj
   rw [List.drop_length, zcm] at i2
   subst i2
   have hfew := pc.few
   have tf : (r4.2.funs.map ((fun x => List.map AC.d x) ∘ Fun.enc)).take r4.2.funs.length = r4.2.funs.map ((fun x => List.map AC.d x) ∘ Fun.enc) := List.take_of_length_le (by simp)
   have td : (r4.2.bad.map ((fun x => List.map AC.d x) ∘ Dia.enc)).take r4.2.bad.length = r4.2.bad.map ((fun x => List.map AC.d x) ∘ Dia.enc) := List.take_of_length_le (by simp)
   by_cases l0 : 0 < X.types.length
   ·rw [if_pos l0]
    simp [l0, ziu, ziv, Fun.enc_length]
    refine ⟨by unfold zak; omega, by omega, by decide, ?_⟩
    by_cases qe : r4.2.e = 0
    ·simp [qe]
     exact EndM.mkE [0, 1, 4, 5, 6, 7, 10, 8, 3, 9] [4, 5, 4, 4, 4, 4] (by simp [AV.erds, AV.erd, Dia.enc, tf, td])
    ·simp [qe]
     refine ⟨by omega, by decide, ?_⟩
     exact EndM.mkE [0, 1, 4, 5, 6, 7, 10, 8, 11, 9] [4, 5, 4, 4, 4, 4] (by simp [AV.erds, AV.erd, Dia.enc, tf, td])
   ·rw [if_neg l0]
    simp [l0, ziu, ziv, Fun.enc_length]
    refine ⟨by omega, by decide, ?_⟩
    by_cases qe : r4.2.e = 0
    ·simp [qe]
     exact EndM.mkE [0, 1, 4, 5, 6, 7, 10, 8, 3, 9] [4, 5, 4, 4, 4, 4] (by simp [AV.erds, AV.erd, Dia.enc, tf, td])
    ·simp [qe]
     refine ⟨by omega, by decide, ?_⟩
     exact EndM.mkE [0, 1, 4, 5, 6, 7, 10, 8, 11, 9] [4, 5, 4, 4, 4, 4] (by simp [AV.erds, AV.erd, Dia.enc, tf, td])
 ·rw [if_neg q0]
  simp [q0]
  refine owK.mk [.c 17 2] ?_
  simp
  refine zac.mk hb1 ?_
  simp
  refine zac.mk hfits ?_
  simp
  refine ⟨by decide, ?_⟩
  refine fzK.mk [16, 18] ?_
  simp only [zn6, zrF, if_pos, if_neg, reduceIte, Nat.reduceEqDiff, zhY, zsd, Blk.fz_arr, zkO, zpQ, zbz, znP]
  refine St.cut (F := w_ Pg c _ _ _) [(0, .c (.ptr 0 0)), (3, .c (.d (.rp X.enc 0))), (4, .c (.ptr 12 0)), (5, .c (.ptr 13 0)), (6, .c (.ptr 14 0)), (7, .c (.ptr 15 0)), (8, .c (.ptr 17 0)), (9, .c (.d (.bool ft)))] (fnB0 L r2.2 [.pin t 0, .pin u 1, .pin v 2, .pin w 3, .pin x 4, .pin y 5] d r1.1 r2.1 (fnT r1.1 r2.1) [.dead]) ?_ ?_ fun T' hT => ?_
  ·simp [zas]
  ·intro i
   by_cases q : i < 19
   ·rcases (show i = 0 \/ i = 1 \/ i = 2 \/ i = 3 \/ i = 4 \/ i = 5 \/ i = 6 \/ i = 7 \/ i = 8 \/ i = 9 \/ i = 10 \/ i = 11 \/ i = 12 \/ i = 13 \/ i = 14 \/ i = 15 \/ i = 16 \/ i = 17 \/ i = 18 from by omega) with rfl | rfl | rfl | rfl | rfl | rfl | rfl | rfl | rfl | rfl | rfl | rfl | rfl | rfl | rfl | rfl | rfl | rfl | rfl <;> simp [zas, fnT, zaj]
   ·refine Eq.trans (b := Blk.non) ?_ (zcH (by simp; omega)).symm
    try simp [show i ≠ 0 from by omega, show i ≠ 1 from by omega, show i ≠ 2 from by omega, show i ≠ 3 from by omega, show i ≠ 4 from by omega, show i ≠ 5 from by omega, show i ≠ 6 from by omega, show i ≠ 7 from by omega, show i ≠ 8 from by omega, show i ≠ 9 from by omega, show i ≠ 10 from by omega, show i ≠ 11 from by omega, show i ≠ 12 from by omega, show i ≠ 13 from by omega, show i ≠ 14 from by omega, show i ≠ 15 from by omega, show i ≠ 16 from by omega, show i ≠ 17 from by omega, show i ≠ 18 from by omega]
    rw [zcH (show 12 <= i from by omega)]
    try rfl
  simp only [List.forall_mem_cons, List.not_mem_nil, false_implies, implies_true, and_true] at hT
  obtain ⟨l0, l3, l4, l5, l6, l7, l8, l9⟩ := hT
  simp [l0, l3, l4, l5, l6, l7, l8, l9]
  have P5 := p2.1
  generalize fnT r1.1 r2.1 = Ty at *
  generalize r2.2 = S2 at *
  obtain ⟨S5, pa, hS5⟩ : ∃ S5, SOk L S5 (8 * 30001 + 1 + k) /\ (if X.module = L.main.module /\ X.decl = L.main.decl /\ ft = false then zaM d.line d.col 14 S2 else S2) = S5 := by
   split
   ·exact ⟨_, (fin S2 P5).2, rfl⟩
   ·exact ⟨_, P5, rfl⟩
  rw [hS5]
  by_cases cm : X.module = L.main.module
  rotate_left
  rw [if_neg (fun z => cm z.1)] at hS5
  subst hS5
  simp [cm, l0, l3, l4, l5, l6, l7, l8, l9]
  refine ⟨by decide, ?_⟩
  generalize S2 = S5 at *
  rotate_left
  by_cases cd : X.decl = L.main.decl
  rotate_left
  rw [if_neg (fun z => cd z.2.1)] at hS5
  subst hS5
  simp [cm, cd, l0, l3, l4, l5, l6, l7, l8, l9]
  refine ⟨by decide, ?_⟩
  generalize S2 = S5 at *
  rotate_left
  rotate_left
  by_cases cf : ft = true
  rw [if_neg (fun z => by rw [cf] at z; simp at z)] at hS5
  subst hS5
  simp [cm, cd, cf, l0, l3, l4, l5, l6, l7, l8, l9]
  refine ⟨by decide, ?_⟩
  generalize S2 = S5 at *
  rotate_left
  rw [if_pos ⟨cm, cd, by simpa using cf⟩] at hS5
  have ma := (fin S2 P5).1
  rw [hS5] at ma
  simp [cm, cd, cf, l0, l3, l4, l5, l6, l7, l8, l9]
  refine ⟨by decide, ?_⟩
  refine zaa.mk [0, 1, 2, 3, 4, 5] ma (by simp [l0, l3, l4, l5, l6, l7, l8, l9]) ?_
  simp [l0, l3, l4, l5, l6, l7, l8, l9]
  all_goals
   have mi := (minf S5 pa).1
   have pi := (minf S5 pa).2
   generalize zao L d.body [(d.param, r1.1)] (S5) = r3 at *
   have mc := zbn L r3.1.1 r3.1.2 r2.1 d.body r3.2 (by have := pi.sites; omega)
   have pc := coerceC_ok (b := k) (pi.less (by omega)) r3.1.1 r3.1.2 r2.1 d.body.line d.body.col
   generalize zaG r3.1.1 r3.1.2 r2.1 d.body.line d.body.col r3.2 = r4 at *
   refine zaa.mk [0, 1, 2, 3, 4, 5] mi (by simp [l0, l3, l4, l5, l6, l7, l8, l9]) ?_
   simp [l0, l3, l4, l5, l6, l7, l8, l9]
   refine zaa.mk [0, 1, 2, 19, 4, 20] mc (by simp [l0, l3, l4, l5, l6, l7, l8, l9]) ?_
   simp [e1, hnm2, l0, l3, l4, l5, l6, l7, l8, l9]
   refine ⟨by unfold zak; omega, by unfold zak; omega, by decide, ?_⟩
   refine W.loop Pg_mixed hp (fun Y : Nat × ByteArray => Y.1 <= X.types.length /\ Y.2.size <= 100 + Y.1 * 20010 /\ zcm (X.types.drop Y.1) Y.1 Y.2 = R) (fun Y => fnTs X Y.1 Y.2) (fun _ => fnBs L r4.2 [.pin t 0, .pin u 1] Ty r4.1) (fun Y => X.types.length - Y.1) (0, nm ++ bs [46] ++ d.name) [0, 1, 2, 4, 6, 7, 17, 21, 23, 20] ⟨by simp, by simp only [ByteArray.size_append, zcM, List.length_cons, List.length_nil]; omega, by simpa using hR⟩ (by simp [l0, l3, l4, l5, l6, l7, l8, l9]) fun ⟨j, z⟩ ⟨i1, i3, i2⟩ => ?_
   unfold lp_gc_function_0
   simp only at i1 i3 i2
   simp
   refine gd.mk (fun h => ?_) (fun h => ?_)
   ·have hj : j < X.types.length := by simpa using h
    rw [zkJ _ _ _ hj] at i2
    obtain ⟨q, hq⟩ : ∃ q, X.types[j] = q := ⟨_, rfl⟩
    rw [hq] at i2
    have hw := wrap_i64 (n := (j : Int) + 1) (by have := hXt; omega) (by have := hXt; omega)
    have hsq := zgx q
    by_cases j0 : j = 0
    ·subst j0
     simp [hj, hq]
     refine ⟨by unfold zak; omega, ?_⟩
     refine zac.mk (zim q) ?_
     simp
     refine ⟨by unfold zak; omega, ?_⟩
     refine Abs.Next.mk (0 + 1, z ++ bs [91] ++ zdb q) [0, 1, 2, 3, 4, 5, 6, 7, 8, 9] ⟨by simp only; omega, by simp only [ByteArray.size_append, zcM, List.length_cons, List.length_nil]; omega, by simpa using i2⟩ (by simp only; omega) ?_
     simp [show IntKind.i64.wrap 1 = 1 from by decide]
    ·rw [if_neg j0] at i2
     simp [hj, hq, j0]
     refine ⟨by unfold zak; omega, ?_⟩
     refine zac.mk (zim q) ?_
     simp
     refine ⟨by unfold zak; omega, ?_⟩
     refine Abs.Next.mk (j + 1, z ++ bs [44, 32] ++ zdb q) [0, 1, 2, 3, 4, 5, 6, 7, 8, 9] ⟨by simp only; omega, by simp only [ByteArray.size_append, zcM, List.length_cons, List.length_nil]; omega, i2⟩ (by simp only; omega) ?_
     simp [hw]
   have hj : j = X.types.length := by simp at h; omega
   subst hj
   rw [List.drop_length, zcm] at i2
   subst i2
   have hfew := pc.few
   have tf : (r4.2.funs.map ((fun x => List.map AC.d x) ∘ Fun.enc)).take r4.2.funs.length = r4.2.funs.map ((fun x => List.map AC.d x) ∘ Fun.enc) := List.take_of_length_le (by simp)
   have td : (r4.2.bad.map ((fun x => List.map AC.d x) ∘ Dia.enc)).take r4.2.bad.length = r4.2.bad.map ((fun x => List.map AC.d x) ∘ Dia.enc) := List.take_of_length_le (by simp)
   by_cases l0 : 0 < X.types.length
   ·rw [if_pos l0]
    simp [l0, ziu, ziv, Fun.enc_length]
    refine ⟨by unfold zak; omega, by omega, by decide, ?_⟩
    by_cases qe : r4.2.e = 0
    ·simp [qe]
     exact EndM.mkE [0, 1, 4, 5, 6, 7, 10, 8, 3, 9] [4, 5, 4, 4, 4, 4] (by simp [AV.erds, AV.erd, Dia.enc, tf, td])
    ·simp [qe]
     refine ⟨by omega, by decide, ?_⟩
     exact EndM.mkE [0, 1, 4, 5, 6, 7, 10, 8, 11, 9] [4, 5, 4, 4, 4, 4] (by simp [AV.erds, AV.erd, Dia.enc, tf, td])
   ·rw [if_neg l0]
    simp [l0, ziu, ziv, Fun.enc_length]
    refine ⟨by omega, by decide, ?_⟩
    by_cases qe : r4.2.e = 0
    ·simp [qe]
     exact EndM.mkE [0, 1, 4, 5, 6, 7, 10, 8, 3, 9] [4, 5, 4, 4, 4, 4] (by simp [AV.erds, AV.erd, Dia.enc, tf, td])
    ·simp [qe]
     refine ⟨by omega, by decide, ?_⟩
     exact EndM.mkE [0, 1, 4, 5, 6, 7, 10, 8, 11, 9] [4, 5, 4, 4, 4, 4] (by simp [AV.erds, AV.erd, Dia.enc, tf, td])
end
end Go.Gr
namespace Go.Gr
open Go.Abs Go.Proofs
abbrev chT (L : Lnk) (i : Nat) : List (Nat × AV) := [(5, .c (.d (.int .i64 i))), (4, .c (.ptr 2 0)), (2, .c (.ptr 0 0)), (1, .c (.d (.rp L.enc 0)))]
abbrev chB (L : Lnk) (s : CS) : List Blk := [.box [.d (.sl true 13 []), .d (.int .i64 0), .d (.sl true 3 [])], .box [.d (.int .i64 256), .msl 3 6 0 s.tab.length], ckB L s (.sl true 1 []) (.sl true 4 []) 1 3 4 5, funA s.funs, sitA s.sites, diaA s.bad, tabA s.tab]
abbrev chT4 (i : Nat) : List (Nat × AV) := [(10, .c (.d (.int .i64 i))), (4, .c (.ptr 2 0)), (2, .c (.ptr 0 0))]
abbrev chB4 (L : Lnk) (s : CS) (vD wD : D) : List Blk := [.box [.d (.sl true 13 []), .d (.int .i64 0), .d (.sl true 3 [])], .box [.d (.int .i64 256), .msl 3 6 0 s.tab.length], ckB L s vD wD 1 3 4 5, funA s.funs, sitA s.sites, diaA s.bad, tabA s.tab]
theorem zvt (a0 a1 a2 a3 a4 a5 a6 a7 a8 a9 a10 a11 a12 a13 a14 a15 a16 : AC) : cut [a0, a1, a2, a3, a4, a5, a6, a7, a8, a9, a10, a11, a12, a13, a14, a15, a16] 7 3 = [a7, a8, a9] := rfl
theorem zvu (L : Lnk) : put (splice [.d (.sl true 1 []), .d (.sl true 2 []), .d (.sl true 1 []), .d (.str (bs [])), .d (.int .i64 0), .d (.int .i64 0), .d (.sc (.pointer none)), .d (.sl true 13 []), .d (.int .i64 0), .d (.sl true 3 []), .d (.sl true 4 []), .d (.int .i64 0), .d (.sl true 1 []), .d (.sl true 4 []), .d (.int .i64 0), .d (.int .i64 0), .d (.int .i64 0)] 0 (L.enc.map AC.d)) 6 [AC.ptr 1 0] = [.d (.sl false 1 (encS L.names)), .d (.sl false 2 (L.mods.map Mdl.enc)), .d (.sl false 1 (L.scopes.map scpE)), .d (.str L.main.name), .d (.int .i64 L.main.module), .d (.int .i64 L.main.decl), .ptr 1 0, .d (.sl true 13 []), .d (.int .i64 0), .d (.sl true 3 []), .d (.sl true 4 []), .d (.int .i64 0), .d (.sl true 1 []), .d (.sl true 4 []), .d (.int .i64 0), .d (.int .i64 0), .d (.int .i64 0)] := rfl
set_option maxRecDepth 20000 in
set_option maxHeartbeats 4000000 in
theorem ztn (L : Lnk) (hG : LinkG L) : PCall Pg F.g09_Check [.agg L.enc] (.tup [.agg (zeh L).1.enc, .one (.sl false 4 ((zeh L).2.map Dia.enc))]) := by
 refine zpc (by simp) fun o c hN hp => ?_
 obtain ⟨R, hR⟩ : ∃ R, zeh L = R := ⟨_, rfl⟩
 rw [hR]
 unfold zeh at hR
 unfold zia
 simp
 refine owK.mk [.c 2 7, .c 2 9, .c 2 10, .c 1 1] ?_
 simp [zvu]
 refine W.loop Pg_mixed hp (fun Y : Nat × CS => Y.1 <= L.mods.length /\ TOk L Y.2 0 /\ Y.2.funs = [] /\ Y.2.sites = [] /\ Y.2.bad = [] /\ Y.2.module = 0 /\ Y.2.e = 0 /\ Y.2.line = 0 /\ Y.2.col = 0 /\ seedM L (L.mods.drop Y.1) Y.1 Y.2 = seedM L L.mods 0 cs0) (fun Y => chT L Y.1) (fun Y => chB L Y.2) (fun Y => L.mods.length - Y.1) (0, cs0) [0, 1, 2, 3, 4, 5, 6] ⟨by simp, ⟨by simp [cs0], by simp [cs0], by simp [cs0], by simp [cs0], by simp [cs0]⟩, rfl, rfl, rfl, rfl, rfl, rfl, rfl, by simp⟩ (by simp [cs0]) fun ⟨i, S⟩ ⟨i1, i2, i3, i4, i5, i6, i7, i8, i9, i10⟩ => ?_
 unfold zgn
 simp only at i1 i2 i3 i4 i5 i6 i7 i8 i9 i10
 simp
 refine gd.mk (fun h => ?_) (fun h => ?_)
 ·have hi : i < L.mods.length := by simpa using h
  obtain ⟨m, hm⟩ : ∃ m, L.mods[i] = m := ⟨_, rfl⟩
  rw [List.drop_eq_getElem_cons hi, hm, seedM] at i10
  simp [hi, hm]
  refine W.loop Pg_mixed hp (fun Y : Nat × CS => Y.1 <= m.decs.length /\ TOk L Y.2 0 /\ Y.2.funs = [] /\ Y.2.sites = [] /\ Y.2.bad = [] /\ Y.2.module = 0 /\ Y.2.e = 0 /\ Y.2.line = 0 /\ Y.2.col = 0 /\ (if 0 < (zcc L i (m.decs.drop Y.1) Y.1 Y.2).2.length then zcc L i (m.decs.drop Y.1) Y.1 Y.2 else seedM L (L.mods.drop (i + 1)) (i + 1) (zcc L i (m.decs.drop Y.1) Y.1 Y.2).1) = seedM L L.mods 0 cs0) (fun Y => (6, .c (.d (.int .i64 Y.1))) :: chT L i) (fun Y => chB L Y.2) (fun Y => m.decs.length - Y.1) (0, S) [0, 1, 2, 3, 4, 5, 6] ⟨by simp, i2, i3, i4, i5, i6, i7, i8, i9, by simpa using i10⟩ (by simp) fun ⟨k, S2⟩ ⟨j1, j2, j3, j4, j5, j6, j7, j8, j9, j10⟩ => ?_
  unfold lp_g09_Check_2
  simp only at j1 j2 j3 j4 j5 j6 j7 j8 j9 j10
  have hmi : L.mods[i]? = some m := by rw [List.getElem?_eq_getElem hi, hm]
  simp [hi, hm]
  refine gd.mk (fun h => ?_) (fun h => ?_)
  ·have hk : k < m.decs.length := by simpa using h
   obtain ⟨d, hd⟩ : ∃ d, m.decs[k] = d := ⟨_, rfl⟩
   rw [List.drop_eq_getElem_cons hk, hd, zcc] at j10
   have hdl := (hG.small m (List.mem_of_getElem? hmi)).decs
   have hw := wrap_i64 (n := (k : Int) + 1) (by omega) (by omega)
   by_cases c0 : 0 < d.vars.length
   ·rw [if_pos c0] at j10
    simp [hi, hm, hk, hd, c0]
    refine Abs.Next.mk (k + 1, S2) [0, 1, 2, 3, 4, 5, 6] ⟨by simp only; omega, j2, j3, j4, j5, j6, j7, j8, j9, j10⟩ (by simp only; omega) ?_
    simp [hw]
   rw [if_neg c0] at j10
   have hx : ∀ x, x ∈ (addR 256 S2.tab ⟨i, k, []⟩).2 -> EntOk L ⟨bs [], x.module, x.decl⟩ /\ x.types.length <= 1000000 := fun x hx => by
    have hm2 : L.mods.getD i noM = m := by rw [List.getD_eq_getElem?_getD, hmi]; try rfl
    rcases zjB hx with hx | hx
    ·exact j2.ist x hx
    ·subst hx
     exact ⟨⟨by simp only; omega, by simp only; omega, by simp only; omega, by simp only [Int.toNat_natCast]; rw [hm2]; omega⟩, by simp⟩
   have hx2 := zgF j2.tab ⟨i, k, []⟩
   have le4 : L.enc[4]? = some (D.int .i64 L.main.module) := rfl
   have le5 : L.enc[5]? = some (D.int .i64 L.main.decl) := rfl
   have ma := MCall.erd (args := [.c (.ptr 0 0), .ag [.d (.int .i64 i), .d (.int .i64 k), .d (.sl true 4 [])]]) (zr5 256 S2.tab (by have := j2.tab; omega) ⟨i, k, []⟩ (by simp)) (by simp [AV.erds, AV.erd, AC.erd, D.erd, D.erdL, D.erdE, Ist.enc])
   generalize addR 256 S2.tab ⟨i, k, []⟩ = r at *
   simp only at j10
   by_cases r0 : r.1.2 = 0
   rotate_left
   ·simp only [if_pos (show r.1.2 ≠ 0 from r0)] at j10
    simp at j10
    rw [<- j10] at hR
    simp at hR
    subst hR
    simp [hi, hm, hk, hd, c0]
    refine zaa.mk [1, 6] ma (by simp [Ist.enc]) ?_
    simp [r0]
    refine ⟨by decide, ?_⟩
    refine fzK.mk [] ?_
    simp [noPrg, Prg.enc, Dia.enc]
    try decide
   ·simp only [if_neg (show ¬ r.1.2 ≠ 0 from fun z => z r0)] at j10
    by_cases cm : (i : Int) = L.main.module
    ·by_cases cd : (k : Int) = L.main.decl
     ·simp only [if_pos (show (i : Int) = L.main.module /\ (k : Int) = L.main.decl from ⟨cm, cd⟩)] at j10
      simp [hi, hm, hk, hd, c0]
      refine zaa.mk [1, 6] ma (by simp [Ist.enc]) ?_
      simp [r0, cm, cd, le4, le5]
      refine Abs.Next.mk (k + 1, { S2 with tab := r.2, main := r.1.1 }) [0, 1, 2, 3, 4, 5, 8] ⟨by simp only; omega, ⟨hx2, hx, j2.sites, j2.funs, j2.bad⟩, j3, j4, j5, j6, j7, j8, j9, j10⟩ (by simp only; omega) ?_
      simp
      rw [<- cd]; exact hw
     ·simp only [if_neg (show ¬ ((i : Int) = L.main.module /\ (k : Int) = L.main.decl) from fun z => cd z.2)] at j10
      simp [hi, hm, hk, hd, c0]
      refine zaa.mk [1, 6] ma (by simp [Ist.enc]) ?_
      simp [r0, cm, cd, le4, le5]
      refine Abs.Next.mk (k + 1, { S2 with tab := r.2 }) [0, 1, 2, 3, 4, 5, 8] ⟨by simp only; omega, ⟨hx2, hx, j2.sites, j2.funs, j2.bad⟩, j3, j4, j5, j6, j7, j8, j9, j10⟩ (by simp only; omega) ?_
      simp [hw]
    ·simp only [if_neg (show ¬ ((i : Int) = L.main.module /\ (k : Int) = L.main.decl) from fun z => cm z.1)] at j10
     simp [hi, hm, hk, hd, c0]
     refine zaa.mk [1, 6] ma (by simp [Ist.enc]) ?_
     simp [r0, cm, le4, le5]
     refine Abs.Next.mk (k + 1, { S2 with tab := r.2 }) [0, 1, 2, 3, 4, 5, 8] ⟨by simp only; omega, ⟨hx2, hx, j2.sites, j2.funs, j2.bad⟩, j3, j4, j5, j6, j7, j8, j9, j10⟩ (by simp only; omega) ?_
     simp [hw]
  ·have hk : k = m.decs.length := by simp at h; omega
   subst hk
   rw [List.drop_length, zcc] at j10
   simp at j10
   have hw := wrap_i64 (n := (i : Int) + 1) (by have := hG.good.few; omega) (by have := hG.good.few; omega)
   refine Abs.Next.mk (i + 1, S2) [0, 1, 2, 3, 4, 5, 6] ⟨by simp only; omega, j2, j3, j4, j5, j6, j7, j8, j9, j10⟩ (by simp only; omega) ?_
   simp [hw]
 ·have hi : i = L.mods.length := by simp at h; omega
  subst hi
  rw [List.drop_length, seedM] at i10
  rw [<- i10] at hR
  simp only [List.length_nil, Nat.lt_irrefl, if_false] at hR
  obtain ⟨F, hF⟩ : ∃ F, funsC L 257 0 S = F := ⟨_, rfl⟩
  rw [hF] at hR
  refine W.loop Pg_mixed hp (fun Y : Nat × CS × D × D => Y.1 <= 256 /\ TOk L Y.2.1 Y.1 /\ funsC L (257 - Y.1) Y.1 Y.2.1 = F) (fun Y => chT4 Y.1) (fun Y => chB4 L Y.2.1 Y.2.2.1 Y.2.2.2) (fun Y => 257 - Y.1) (0, S, .sl true 1 [], .sl true 4 []) [0, 1, 2, 3, 4, 5, 6] ⟨by simp, i2, by simpa using hF⟩ (by simp) fun ⟨j, S2, vD, wD⟩ ⟨j1, j2, j3⟩ => ?_
  unfold zgo
  simp only at j1 j2 j3
  simp
  refine gd.mk (fun h => ?_) (fun h => ?_)
  ·have hj : j < S2.tab.length := by simpa using h
   have hjt := j2.tab
   obtain ⟨X, hX⟩ : ∃ X, S2.tab[j] = X := ⟨_, rfl⟩
   have hXm : X ∈ S2.tab := hX ▸ List.getElem_mem hj
   have hXi := j2.ist X hXm
   have hw := wrap_i64 (n := (j : Int) + 1) (by omega) (by omega)
   have mf := znU L hG X hXi.1 hXi.2 S2 vD wD ((257 - (j + 1)) * 240009) (start_ok hXi.1 hXi.2 (by omega) j2)
   have mk := fun_keep hG hXi.1 hXi.2 (by omega) j2
   have e3 : funsC L (257 - (j + 1)) (j + 1) (funC L X S2) = F := by
    have e : 257 - j = (257 - (j + 1)) + 1 := by omega
    rw [e, funsC, if_pos hj] at j3
    rw [List.getD_eq_getElem?_getD, List.getElem?_eq_getElem hj, hX] at j3
    exact j3
   generalize funC L X S2 = S3 at *
   simp [hj, hX]
   refine zaa.mk [2, 1, 3, 4, 5, 6] mf (by simp) ?_
   simp
   refine Abs.Next.mk (j + 1, S3, .sl false 1 (encS S3.vars), .sl false 4 (S3.wth.map Typ.enc)) [0, 1, 2, 7, 8, 9, 10] ⟨by simp only; omega, mk, e3⟩ (by simp only; omega) ?_
   simp [hw]
  ·have hj : ¬ j < S2.tab.length := by simpa using h
   have e3 : S2 = F := by
    have e : 257 - j = (257 - (j + 1)) + 1 := by omega
    rw [e, funsC, if_neg hj] at j3
    exact j3
   subst e3
   by_cases hb : 0 < S2.bad.length
   ·rw [if_pos hb] at hR
    subst hR
    simp [hb]
    refine ⟨by decide, ?_⟩
    refine fzK.mk [5] ?_
    simp [noPrg, Prg.enc]
    exact List.take_of_length_le (by simp)
   ·rw [if_neg hb] at hR
    subst hR
    simp [hb, zvt]
    refine fzK.mk [3, 4] ?_
    simp [Prg.enc]
    exact ⟨List.take_of_length_le (by simp), List.take_of_length_le (by simp)⟩
end Go.Gr
namespace Go.Gr
open Go.Abs Go.Proofs
@[simp] theorem Prg.enc_length (p : Prg) : p.enc.length = 3 := rfl
@[simp] theorem Prg.cut_map (p : Prg) : cut (p.enc.map AC.d) 0 3 = p.enc.map .d := rfl
@[simp] theorem Prg.cut_enc (p : Prg) : cut p.enc 0 3 = p.enc := rfl
@[simp] theorem Prg.er_map (p : Prg) : p.enc.map D.er = p.enc := rfl
abbrev prV (r : Prg × Bool) : DV := .tup [.agg r.1.enc, .one (.bool r.2)]
set_option maxRecDepth 20000 in
set_option maxHeartbeats 4000000 in
theorem zlb (l : List (ByteArray × ByteArray)) : PCall Pg F.w11_Program [.one (.sl false 2 (l.map srcE))] (prV (programP l)) := by
 refine zmP (by simp) fun o c hN hp => ?_
 obtain ⟨R, hR⟩ : ∃ R, programP l = R := ⟨_, rfl⟩
 rw [hR]
 unfold programP at hR
 have hfew := zvm l
 obtain ⟨f, hf⟩ : ∃ f, (decide (l.length <= 20) && fewL l 0) = f := ⟨_, rfl⟩
 rw [hf] at hfew
 unfold zgp
 simp
 refine zac.mk hfew ?_
 simp
 cases f with
 | false =>
  have hc : 20 < l.length \/ fewL l 0 = false \/ 5000 < sumL l := by
   simp at hf
   by_cases q : l.length <= 20
   ·exact .inr (.inl (hf q))
   ·exact .inl (by omega)
  rw [if_pos hc] at hR
  refine W.loop Pg_mixed hp (fun _ : Nat => True) (fun _ => [(6, .c (.d (.int .i64 0))), (5, .c (.d (.int .i64 0))), (4, .c (.d (.bool false))), (2, .c (.ptr 0 0)), (0, .c (.d (.sl false 2 (l.map srcE))))]) (fun _ => [.box [.d (.sl true 13 []), .d (.int .i64 0), .d (.sl true 3 [])]]) (fun _ => 0) 0 [0] (by simp) (by simp) fun j h1 => ?_
  unfold zdj
  simp
  refine gd.mk (fun h => ?_) (fun h => ?_)
  ·subst hR
   simp [noPrg, Prg.enc]
  ·subst hR
   simp [noPrg, Prg.enc]
 | true =>
  simp at hf
  have hl := hf.1
  refine W.loop Pg_mixed hp (fun Y : Nat × Nat => Y.1 <= l.length /\ Y.2 <= 70000 /\ fewL (l.drop Y.1) Y.2 = true /\ (Y.2 : Int) + sumL (l.drop Y.1) = sumL l) (fun Y => [(6, .c (.d (.int .i64 Y.1))), (5, .c (.d (.int .i64 Y.2))), (4, .c (.d (.bool true))), (2, .c (.ptr 0 0)), (0, .c (.d (.sl false 2 (l.map srcE))))]) (fun _ => [.box [.d (.sl true 13 []), .d (.int .i64 0), .d (.sl true 3 [])]]) (fun Y => l.length - Y.1) (0, 0) [0] ⟨by simp, by simp, by simpa using hf.2, by simp⟩ (by simp) fun ⟨j, n⟩ ⟨i1, i2, i3, i4⟩ => ?_
  unfold zdj
  simp only at i1 i2 i3 i4
  simp
  refine gd.mk (fun h => ?_) (fun h => ?_)
  ·have hj : j < l.length := by simpa using h
   obtain ⟨s, hs⟩ : ∃ s, l[j] = s := ⟨_, rfl⟩
   rw [List.drop_eq_getElem_cons hj, hs, fewL] at i3
   rw [List.drop_eq_getElem_cons hj, hs, sumL] at i4
   have hw := wrap_i64 (n := (j : Int) + 1) (by omega) (by omega)
   by_cases c1 : (70000 : Int) - n < s.2.size \/ 1000 < s.1.size
   ·rw [if_pos c1] at i3; cases i3
   rw [if_neg c1] at i3
   have hw3 := wrap_i64 (n := (n : Int) + s.2.size) (by omega) (by omega)
   simp [hj, hs]
   refine Abs.Next.mk (j + 1, n + s.2.size) [0] ⟨by simp only; omega, by simp only; omega, by simpa using i3, by simp only; omega⟩ (by simp only; omega) ?_
   simp [hw, hw3]
  ·have hj : j = l.length := by simp at h; omega
   subst hj
   rw [List.drop_length, sumL] at i4
   have i5 : sumL l = n := by omega
   by_cases c5 : (5000 : Int) < n
   ·rw [if_pos (.inr (.inr (by omega)))] at hR
    subst hR
    simp [c5, noPrg, Prg.enc]
   ·have hc : ¬ (20 < l.length \/ fewL l 0 = false \/ 5000 < sumL l) := by
     rw [hf.2]
     simp
     omega
    rw [if_neg hc] at hR
    have hlk := zuw l
    have hlg := zlR l
    generalize zfE l = x at *
    simp only at hR
    simp [c5]
    refine zac.mk hlk ?_
    simp
    by_cases c6 : 0 < x.2.length
    ·rw [if_pos c6] at hR
     subst hR
     simp [c6, noPrg, Prg.enc]
    ·rw [if_neg c6] at hR
     have hck := ztn x.1 (hlg (by omega))
     generalize zeh x.1 = y at *
     simp [c6]
     refine zac.mk hck ?_
     subst hR
     simp
end Go.Gr
namespace Go.Gr
open Go.Abs Go.Proofs
def insL (l : List Int) (x : Int) : List Int := if x ∈ l then l else l ++ [x]
def addL (l r : List Int) : List Int := r.foldl insL l
theorem zn3 (l a b : List Int) : addL l (a ++ b) = addL (addL l a) b := by simp [addL]
@[simp] theorem ztK (l : List Int) : addL l [] = l := rfl
theorem ztL {l : List Int} {x y : Int} : y ∈ insL l x ↔ y ∈ l \/ y = x := by
 unfold insL
 split
 ·rename_i h
  exact ⟨.inl, fun h' => h'.elim id fun e => e ▸ h⟩
 ·simp
theorem zqM {l : List Int} {x : Int} (h : l.Nodup) : (insL l x).Nodup := by
 unfold insL
 split
 ·exact h
 ·rename_i q
  refine List.nodup_append.2 ⟨h, by simp, fun a ha b hb e => ?_⟩
  rw [List.mem_singleton] at hb
  exact q (hb ▸ e ▸ ha)
theorem ztM (l : List Int) (x : Int) : (insL l x).length <= l.length + 1 := by
 unfold insL; split <;> simp
theorem zn4 : ∀ {r l : List Int} {y : Int}, y ∈ addL l r ↔ y ∈ l \/ y ∈ r
 | [], l, y => by simp [addL]
 | x :: r, l, y => by
  have : addL l (x :: r) = addL (insL l x) r := rfl
  rw [this, zn4, ztL, List.mem_cons, or_assoc]
theorem zgP : ∀ {r l : List Int}, l.Nodup -> (addL l r).Nodup
 | [], l, h => h
 | x :: r, l, h => zgP (r := r) (zqM h)
theorem zjN : ∀ (r l : List Int), (addL l r).length <= l.length + r.length
 | [], l => Nat.le_refl _
 | x :: r, l => by
  have h1 := zjN r (insL l x)
  have h2 := ztM l x
  have : addL l (x :: r) = addL (insL l x) r := rfl
  rw [this, List.length_cons]; omega
def putI (x : Int) : List Int -> List Int
 | [] => [x]
 | y :: l => if x <= y then x :: y :: l else y :: putI x l
def srtI : List Int -> List Int
 | [] => []
 | x :: l => putI x (srtI l)
theorem zh0 (x : Int) : ∀ l : List Int, (putI x l).Perm (x :: l)
 | [] => .refl _
 | y :: l => by
  rw [putI]
  split
  ·exact .refl _
  ·exact ((zh0 x l).cons y).trans (.swap x y l)
theorem zee : ∀ l : List Int, (srtI l).Perm l
 | [] => .refl _
 | x :: l => (zh0 x _).trans ((zee l).cons x)
theorem zkN (x : Int) : ∀ l : List Int, l.Pairwise (· < ·) -> x ∉ l -> (putI x l).Pairwise (· < ·)
 | [], _, _ => by simp [putI]
 | y :: l, h, hx => by
  rw [List.pairwise_cons] at h
  simp only [List.mem_cons, not_or] at hx
  rw [putI]
  split
  ·rename_i q
   refine List.pairwise_cons.2 ⟨fun z hz => ?_, List.pairwise_cons.2 h⟩
   rcases List.mem_cons.1 hz with e | e
   ·subst e; omega
   ·have := h.1 z e; omega
  ·refine List.pairwise_cons.2 ⟨fun z hz => ?_, zkN x l h.2 hx.2⟩
   rcases List.mem_cons.1 ((zh0 x l).mem_iff.1 hz) with e | e
   ·subst e; omega
   ·exact h.1 z e
theorem zgQ : ∀ l : List Int, l.Nodup -> (srtI l).Pairwise (· < ·)
 | [], _ => by simp [srtI]
 | x :: l, h => by
  rw [List.nodup_cons] at h
  exact zkN x _ (zgQ l h.2) fun hx => h.1 ((zee l).mem_iff.1 hx)
structure Todo where
 name : ByteArray
 body : Cor
 caps : List Int
 deep : Int
 none : Bool
def Todo.enc (t : Todo) : List D := .str t.name :: (t.body.enc ++ [.sl t.none 1 (encI t.caps), .int .i64 t.deep])
structure Flt where
 name : ByteArray
 caps : Int
 body : Cor
def Flt.enc (t : Flt) : List D := .str t.name :: .int .i64 t.caps :: t.body.enc
def idxI (x : Int) : List Int -> Nat -> Int
 | [], _ => -1
 | y :: l, i => if x = y then i else idxI x l (i + 1)
def numT (t : Todo) (n : Int) : Int := if t.deep <= n then n - t.deep + t.caps.length else idxI n t.caps 0
mutual
def rawV : Cor -> Int -> List Int
 | .mk k n _ _ _ _ _ ks, b => (if k = 4 /\ n < b then [n] else []) ++ zbh ks b
def zbh : List Cor -> Int -> List Int
 | [], _ => []
 | c :: l, b => rawV c b ++ zbh l b
end
def zck (c : Cor) (b : Int) : List Int := srtI (addL [] (rawV c b))
mutual
def za9 (t : Todo) : Cor -> Int -> List Todo -> Cor × List Todo
 | .mk k n tx is ns ts cs ks => fun deep l =>
  if k = 4 then (.mk k (numT t n) tx is ns ts cs ks, l)
  else if k = 5 then
   (.mk 23 l.length (bs []) ((zck (ks.getD 0 noC) deep).map (numT t)) [] [] [] [], l ++ [⟨t.name ++ bs [39], ks.getD 0 noC, zck (ks.getD 0 noC) deep, deep, false⟩])
  else (.mk k n tx is ns ts cs (za3 t k ks 0 deep l).1, (za3 t k ks 0 deep l).2)
def za3 (t : Todo) (k : Int) : List Cor -> Nat -> Int -> List Todo -> List Cor × List Todo
 | [] => fun _ _ l => ([], l)
 | c :: r => fun i deep l =>
  let x := za9 t c (if k = 18 then deep + i else deep) l
  let y := za3 t k r (i + 1) deep x.2
  (x.1 :: y.1, y.2)
end
mutual
def nfn : Cor -> Nat
 | .mk k _ _ _ _ _ _ ks => (if k = 5 then 1 else 0) + nfns ks
def nfns : List Cor -> Nat
 | [] => 0
 | c :: l => nfn c + nfns l
end
mutual
def csz : Cor -> Nat
 | .mk _ _ _ _ _ _ _ ks => 1 + cszs ks
def cszs : List Cor -> Nat
 | [] => 0
 | c :: l => csz c + cszs l
end
def zgR : Nat -> Nat -> List Todo -> List Flt -> List Flt
 | 0, _, _, o => o
 | n + 1, i, l, o => match l[i]? with
  | none => o
  | some t =>
   let r := za9 t t.body (t.deep + 1) l
   zgR n (i + 1) r.2 (o ++ [⟨t.name, t.caps.length, r.1⟩])
def todo0 (f : Fun) : Todo := ⟨f.name, f.body, [], 0, true⟩
def nfnF (l : List Fun) : Nat := l.length + nfns (l.map (·.body))
def convP (p : Prg) : List Flt := zgR (nfnF p.funs + 1) 0 (p.funs.map todo0) []
mutual
def wfC : Nat -> Cor -> Prop
 | m, .mk k n _ _ _ ts _ ks => k ≠ 23 /\ (k = 18 -> ks.length <= 2) /\ (k = 21 -> ks.length = 1 /\ ts.length = 2) /\ (k = 4 -> 0 <= n /\ n < m /\ ks = []) /\ (k = 5 -> ks.length = 1) /\ wfCs m k ks 0
def wfCs : Nat -> Int -> List Cor -> Nat -> Prop
 | _, _, [], _ => True
 | m, k, c :: l, i => wfC (if k = 5 then m + 1 else if k = 18 then m + i else m) c /\ wfCs m k l (i + 1)
end
def CW (m b : Nat) (c : Cor) : Prop := wfC m c /\ csz c <= b
theorem CW.less {m b b' : Nat} {c : Cor} (h : CW m b c) (hb : b <= b') : CW m b' c := ⟨h.1, Nat.le_trans h.2 hb⟩
theorem CW.n0 (m : Nat) (k n : Int) (t : ByteArray) (h4 : k ≠ 4) (h5 : k ≠ 5) (h23 : k ≠ 23) (h21 : k ≠ 21) : CW m 1 (.mk k n t [] [] [] [] []) := by
 simp [CW, wfC, wfCs, csz, cszs, h4, h5, h23, h21]
theorem CW.n1 {m b : Nat} {k n : Int} {t : ByteArray} {ns : List ByteArray} {ts : List Typ} {c : Cor} (h : CW m b c) (h4 : k ≠ 4) (h5 : k ≠ 5) (h23 : k ≠ 23) (h21 : k = 21 -> ts.length = 2) : CW m (b + 1) (.mk k n t [] ns ts [] [c]) := by
 have := h.2
 refine ⟨by simpa [wfC, wfCs, h4, h5, h23] using ⟨h21, h.1⟩, by simp only [csz, cszs]; omega⟩
theorem CW.n2 {m b b' : Nat} {k n : Int} {t : ByteArray} {ns : List ByteArray} {ts : List Typ} {c d : Cor} (h : CW m b c) (h' : CW m b' d) (h4 : k ≠ 4) (h5 : k ≠ 5) (h18 : k ≠ 18) (h23 : k ≠ 23) (h21 : k ≠ 21) : CW m (b + b' + 1) (.mk k n t [] ns ts [] [c, d]) := by
 have := h.2
 have := h'.2
 refine ⟨by simpa [wfC, wfCs, h4, h5, h18, h23, h21] using ⟨h.1, h'.1⟩, by simp only [csz, cszs]; omega⟩
theorem CW.n3 {m b b' b'' : Nat} {k n : Int} {t : ByteArray} {ns : List ByteArray} {ts : List Typ} {c d e : Cor} (h : CW m b c) (h' : CW m b' d) (h'' : CW m b'' e) (h4 : k ≠ 4) (h5 : k ≠ 5) (h18 : k ≠ 18) (h23 : k ≠ 23) (h21 : k ≠ 21) : CW m (b + b' + b'' + 1) (.mk k n t [] ns ts [] [c, d, e]) := by
 have := h.2
 have := h'.2
 have := h''.2
 refine ⟨by simpa [wfC, wfCs, h4, h5, h18, h23, h21] using ⟨h.1, h'.1, h''.1⟩, by simp only [csz, cszs]; omega⟩
theorem CW.noC (m : Nat) : CW m 1 noC := CW.n0 m 0 0 _ (by decide) (by decide) (by decide) (by decide)
theorem CW.cast {m b : Nat} {x : Cor} (h : CW m b x) (t u : Typ) (ln cl : Int) (s : CS) : CW m (b + 1) (zaZ x t u ln cl s).1 := by
 unfold zaZ
 split
 ·exact h.less (by omega)
 ·exact h.n1 (by decide) (by decide) (by decide) (fun _ => rfl)
theorem CW.coerce {m b : Nat} {x : Cor} (h : CW m b x) (t u : Typ) (ln cl : Int) (s : CS) : CW m (b + 1) (zaG x t u ln cl s).1 := by
 unfold zaG
 split
 ·exact h.less (by omega)
 split
 ·exact h.less (by omega)
 split
 ·exact h.cast _ _ _ _ _
 ·exact h.less (by omega)
theorem CW.any {m b : Nat} {x : (Cor × Typ) × CS} (h : CW m b x.1.1) (u : Typ) (ln cl : Int) : CW m (b + 1) (anyC u ln cl x).1.1 := by
 unfold anyC
 split
 ·exact h.cast _ _ _ _ _
 ·exact h.less (by omega)
theorem CW.global (L : Lnk) (m : Nat) (ln cl : Int) (e : Ent) (l : List Typ) (s : CS) : CW m 1 (zby L ln cl e l s).1.1 := by
 unfold zby
 split
 ·exact CW.noC m
 ·exact CW.n0 m 6 _ _ (by decide) (by decide) (by decide) (by decide)
theorem zn5 {m : Nat} {k : Int} (h5 : k ≠ 5) (h18 : k ≠ 18) : ∀ {l : List Cor} {i : Nat}, (∀ c, c ∈ l -> wfC m c) -> wfCs m k l i
 | [], _, _ => by simp [wfCs]
 | c :: l, i, h => by
  rw [wfCs, if_neg h5, if_neg h18]
  exact ⟨h c (by simp), zn5 h5 h18 fun x hx => h x (by simp [hx])⟩
end Go.Gr
namespace Go.Gr
open Go.Abs Go.Proofs
def WInf (b : Nat) (i : Inf) : Prop := ∀ env s, CW env.length b (i env s).1.1
theorem WInf.less {b b' : Nat} {i : Inf} (h : WInf b i) (hb : b <= b') : WInf b' i := fun env s => (h env s).less hb
theorem zc6 (n : Nod) {b : Nat} {i : Inf} (h : WInf b i) (t : Typ) (env : Env) (s : CS) : CW env.length (b + 1) (za1 n i t env s).1 := (h env s).coerce _ _ _ _ _
section
variable (L : Lnk)
theorem zuO (n : Nod) : WInf 1 (zcG L n) := fun env s => by
 unfold zcG
 simp only
 split
 ·rename_i h
  have := zjR env n.text
  have h0 := h.1
  refine ⟨?_, by simp [cN, csz, cszs]⟩
  simp only [cN, wfC, wfCs, and_true, true_and]
  exact ⟨by decide, fun h => absurd h (by decide), fun h => absurd h (by decide), fun _ => ⟨h0, by omega⟩, fun h => absurd h (by decide)⟩
 repeat' split
 all_goals first | exact CW.noC _ | exact CW.global L _ _ _ _ _ _
theorem zv9 (n a : Nod) {ba bb : Nat} {ia ib : Inf} (ha : WInf ba ia) (hb : WInf bb ib) : WInf (ba + bb + 4) (letC n a ia ib) := fun env s => by
 unfold letC
 simp only
 obtain ⟨y, hy⟩ : ∃ y, (if 0 < n.types.length /\ (ia env s).2.e = 0 then (((zaG (ia env s).1.1 (ia env s).1.2 (zay (n.types.getD 0 noT) n.line n.col (ia env s).2).1 a.line a.col (zay (n.types.getD 0 noT) n.line n.col (ia env s).2).2).1, (zay (n.types.getD 0 noT) n.line n.col (ia env s).2).1), (zaG (ia env s).1.1 (ia env s).1.2 (zay (n.types.getD 0 noT) n.line n.col (ia env s).2).1 a.line a.col (zay (n.types.getD 0 noT) n.line n.col (ia env s).2).2).2) else ia env s) = y := ⟨_, rfl⟩
 have h1 : CW env.length (ba + 1) y.1.1 := by
  rw [<- hy]
  split
  ·exact (ha env s).coerce _ _ _ _ _
  ·exact (ha env s).less (by omega)
 rw [hy]
 have h2 := hb (env ++ [(n.text, y.1.2)]) y.2
 rw [List.length_append] at h2
 have := h1.2
 have := h2.2
 refine ⟨?_, by simp only [cK, csz, cszs]; omega⟩
 simp only [cK, wfC, wfCs, and_true, true_and]
 exact ⟨by decide, fun _ => by simp, fun h => absurd h (by decide), fun h => absurd h (by decide), fun h => absurd h (by decide), by simpa using h1.1, by simpa using h2.1⟩
theorem c_fn (n a : Nod) {ba : Nat} {ia : Inf} (ha : WInf ba ia) : WInf (ba + 4) (fnC n a ia) := fun env s => by
 unfold fnC
 simp only
 generalize (if 1 < n.types.length /\ (zay (n.types.getD 0 noT) n.line n.col s).2.e = 0 then zay (n.types.getD 1 noT) n.line n.col (zay (n.types.getD 0 noT) n.line n.col s).2 else (noT, (zay (n.types.getD 0 noT) n.line n.col s).2)) = q
 generalize (zay (n.types.getD 0 noT) n.line n.col s).1 = p
 have h2 := ha (env ++ [(n.text, p)]) q.2
 rw [List.length_append] at h2
 generalize ia (env ++ [(n.text, p)]) q.2 = x at *
 obtain ⟨y, hy⟩ : ∃ y, (if 1 < n.types.length then (((zaG x.1.1 x.1.2 q.1 a.line a.col x.2).1, q.1), (zaG x.1.1 x.1.2 q.1 a.line a.col x.2).2) else x) = y := ⟨_, rfl⟩
 have h3 : CW (env.length + [(n.text, p)].length) (ba + 1) y.1.1 := by
  rw [<- hy]
  split
  ·exact h2.coerce _ _ _ _ _
  ·exact h2.less (by omega)
 rw [hy]
 have := h3.2
 refine ⟨?_, by simp only [cK, csz, cszs]; omega⟩
 simp only [cK, wfC, wfCs, and_true, true_and]
 exact ⟨by decide, fun h => absurd h (by decide), fun h => absurd h (by decide), fun h => absurd h (by decide), fun _ => rfl, by simpa using h3.1⟩
theorem zvy (n b : Nod) {ba bb : Nat} {ia ib : Inf} (ha : WInf ba ia) (hb : WInf bb ib) : WInf (ba + bb + 4) (zdz n b ia ib) := fun env s => by
 unfold zdz
 simp only
 split
 ·exact (CW.noC _).less (by omega)
 ·exact (((ha env s).any _ _ _).n2 ((hb env _).coerce _ _ _ _ _) (by decide) (by decide) (by decide) (by decide) (by decide)).less (by omega)
theorem zwa (n : Nod) {ba : Nat} {ia : Inf} (ha : WInf ba ia) : WInf (ba + 4) (selC n ia) := fun env s => by
 unfold selC
 simp only
 refine CW.less (b := ba + 1 + 1) (CW.n1 ?_ (by decide) (by decide) (by decide) (by decide)) (by omega)
 split
 ·exact (ha env s).cast _ _ _ _ _
 ·exact (ha env s).less (by omega)
theorem zvz (n : Nod) {ba bb : Nat} {ia ib : Inf} (ha : WInf ba ia) (hb : WInf bb ib) : WInf (ba + bb + 4) (zdA n ia ib) := fun env s => by
 unfold zdA
 simp only
 split
 ·exact (CW.noC _).less (by omega)
 ·exact (((ha env s).any _ _ _).n2 (hb env _) (by decide) (by decide) (by decide) (by decide) (by decide)).less (by omega)
theorem zkF (q : Nod) (env : Env) : (zaU q env).1.length = env.length /\ (zaU q env).2.length = env.length := by
 unfold zaU
 split <;> simp
theorem c_if (q a b : Nod) {bq ba bb : Nat} {iq ia ib : Inf} (hq : WInf bq iq) (ha : WInf ba ia) (hb : WInf bb ib) : WInf (bq + ba + bb + 4) (ifC q a b iq ia ib) := fun env s => by
 unfold ifC
 simp only
 have h1 := ha (zaU q env).1 (zaG (iq env s).1.1 (iq env s).1.2 (bT 2) q.line q.col (iq env s).2).2
 rw [(zkF q env).1] at h1
 have h2 := hb (zaU q env).2 (ia (zaU q env).1 (zaG (iq env s).1.1 (iq env s).1.2 (bT 2) q.line q.col (iq env s).2).2).2
 rw [(zkF q env).2] at h2
 exact (CW.n3 ((hq env s).coerce _ _ _ _ _) (h1.coerce _ _ _ _ _) (h2.coerce _ _ _ _ _) (by decide) (by decide) (by decide) (by decide) (by decide)).less (by omega)
theorem c_as (n : Nod) {ba : Nat} {ia : Inf} (ha : WInf ba ia) : WInf (ba + 4) (asC n ia) := fun env s => by
 unfold asC
 simp only
 split
 ·exact (ha env s).less (by omega)
 split
 ·exact (ha env s).less (by omega)
 generalize (zay (n.types.getD 0 noT) n.line n.col (ia env s).2) = u
 obtain ⟨y, hy⟩ : ∃ y, (if (ia env s).1.2.kind ≠ 0 then zaZ (ia env s).1.1 (ia env s).1.2 noT n.line n.col u.2 else ((ia env s).1.1, u.2)) = y := ⟨_, rfl⟩
 have h3 : CW env.length (ba + 1) y.1 := by
  rw [<- hy]
  split
  ·exact (ha env s).cast _ _ _ _ _
  ·exact (ha env s).less (by omega)
 rw [hy]
 split
 ·exact h3.less (by omega)
 split
 ·exact (h3.cast _ _ _ _ _).less (by omega)
 ·exact (h3.n1 (by decide) (by decide) (by decide) (fun _ => rfl)).less (by omega)
theorem c_op (n a b : Nod) {ba bb : Nat} {ia ib : Inf} (ha : WInf ba ia) (hb : WInf bb ib) : WInf (ba + bb + 4) (opC n a b ia ib) := fun env s => by
 unfold opC
 simp only
 split
 ·exact (CW.n3 (zc6 a ha _ env s) (CW.n0 _ 2 1 _ (by decide) (by decide) (by decide) (by decide)) (zc6 b hb _ env _) (by decide) (by decide) (by decide) (by decide) (by decide)).less (by omega)
 split
 ·exact (CW.n3 (zc6 a ha _ env s) (zc6 b hb _ env _) (CW.n0 _ 2 0 _ (by decide) (by decide) (by decide) (by decide)) (by decide) (by decide) (by decide) (by decide) (by decide)).less (by omega)
 split
 ·exact (CW.n2 (ha env s) (hb env _) (by decide) (by decide) (by decide) (by decide) (by decide)).less (by omega)
 split
 ·exact (CW.n2 (zc6 a ha _ env s) (zc6 b hb _ env _) (by decide) (by decide) (by decide) (by decide) (by decide)).less (by omega)
 ·exact (CW.n2 (zc6 a ha _ env s) (zc6 b hb _ env _) (by decide) (by decide) (by decide) (by decide) (by decide)).less (by omega)
theorem zwb (n a : Nod) {ba : Nat} {ia : Inf} (ha : WInf ba ia) : WInf (ba + 4) (oneC n a ia) := fun env s => by
 unfold oneC
 split
 ·exact (CW.n1 (zc6 a ha _ env s) (by decide) (by decide) (by decide) (by decide)).less (by omega)
 split
 ·exact (CW.n1 (zc6 a ha _ env s) (by decide) (by decide) (by decide) (by decide)).less (by omega)
 split
 ·exact (CW.n1 (ha env s) (by decide) (by decide) (by decide) (by decide)).less (by omega)
 ·exact (CW.n1 (ha env s) (by decide) (by decide) (by decide) (by decide)).less (by omega)
theorem znR : ∀ (l : List Nod), (∀ x, x ∈ l -> WInf (4 * nsz x) (zao L x)) -> ∀ env s, (∀ c, c ∈ (zaS L l env s).1.1 -> wfC env.length c) /\ cszs (zaS L l env s).1.1 <= 4 * nszs l
 | [], _, env, s => by rw [zaS]; exact ⟨fun c h => (by cases h), by simp [cszs]⟩
 | n :: l, h, env, s => by
  rw [zaS]
  simp only
  have h1 := h n (by simp) env s
  have h2 := znR l (fun x hx => h x (by simp [hx])) env (zao L n env s).2
  have := h1.2
  have := h2.2
  refine ⟨fun c hc => ?_, by rw [cszs, nszs]; omega⟩
  rcases List.mem_cons.1 hc with e | hc
  ·rw [e]; exact h1.1
  ·exact h2.1 c hc
theorem zwc (n : Nod) (h : ∀ x, x ∈ n.kids -> WInf (4 * nsz x) (zao L x)) : WInf (4 * nsz n) (recC n (zaS L n.kids)) := fun env s => by
 unfold recC
 simp only
 have h1 := znR L n.kids h env (if dupS [] n.names = true then zaM n.line n.col 8 s else s)
 have := h1.2
 have := za2 n
 refine ⟨?_, by simp only [csz]; omega⟩
 simp only [wfC, true_and]
 exact ⟨by decide, fun h => absurd h (by decide), fun h => absurd h (by decide), fun h => absurd h (by decide), fun h => absurd h (by decide), zn5 (by decide) (by decide) h1.1⟩
theorem zkG {b : Nat} {j : Inf} (h : WInf b j) (hb : 1 <= b) : WInf b (stopC j) := fun env s => by
 unfold stopC
 split
 ·exact (CW.noC _).less hb
 ·exact h env s
theorem zkH (n : Nod) {rest : Inf} (hr : WInf (4 * nsz n) rest) (h : ∀ x, x ∈ n.kids -> WInf (4 * nsz x) (zao L x)) : WInf (4 * nsz n) (headC L n rest) := fun env s => by
 have := za2 n
 unfold headC
 split
 ·exact (CW.n0 _ 0 _ _ (by decide) (by decide) (by decide) (by decide)).less (by omega)
 split
 ·exact (CW.n0 _ 1 _ _ (by decide) (by decide) (by decide) (by decide)).less (by omega)
 split
 ·exact (CW.n0 _ 2 _ _ (by decide) (by decide) (by decide) (by decide)).less (by omega)
 split
 ·exact (CW.n0 _ 3 _ _ (by decide) (by decide) (by decide) (by decide)).less (by omega)
 split
 ·exact (CW.n0 _ 20 _ _ (by decide) (by decide) (by decide) (by decide)).less (by omega)
 split
 ·exact (zuO L n env s).less (by omega)
 split
 ·exact zwc L n h env s
 ·exact hr env s
theorem ztv (n : Nod) (h : ∀ x, x ∈ n.kids -> WInf (4 * nsz x) (zao L x)) : WInf (4 * nsz n) (zao L n) := by
 obtain ⟨k, tx, nn, ln, cl, ts, ns, ks⟩ := n
 match ks, h with
 | [], h =>
  rw [eq0]
  exact zkG (zkH L _ (fun env s => (CW.noC _).less (by rw [za2]; omega)) h) (by rw [za2]; omega)
 | [a], h =>
  have ha := h a (by simp [Nod.kids])
  have e : 4 * nsz (Nod.mk k tx nn ln cl ts ns [a]) = 4 * nsz a + 4 := by simp only [nsz, nszs]; omega
  rw [eq1]
  refine zkG (zkH L _ (fun env s => ?_) h) (by omega)
  rw [e]
  unfold zgs
  split
  ·exact c_fn _ _ ha env s
  split
  ·exact zwa _ ha env s
  split
  ·exact c_as _ ha env s
  ·exact zwb _ _ ha env s
 | [a, b], h =>
  have ha := h a (by simp [Nod.kids])
  have hb := h b (by simp [Nod.kids])
  have e : 4 * nsz (Nod.mk k tx nn ln cl ts ns [a, b]) = 4 * nsz a + 4 * nsz b + 4 := by simp only [nsz, nszs]; omega
  rw [eq2]
  refine zkG (zkH L _ (fun env s => ?_) h) (by omega)
  rw [e]
  unfold zgt
  split
  ·exact zv9 _ _ ha hb env s
  split
  ·exact zvy _ _ ha hb env s
  split
  ·exact zvz _ ha hb env s
  ·exact c_op _ _ _ ha hb env s
 | a :: b :: c :: l, h =>
  have e : 4 * nsz a + 4 * nsz b + 4 * nsz c + 4 <= 4 * nsz (Nod.mk k tx nn ln cl ts ns (a :: b :: c :: l)) := by simp only [nsz, nszs]; omega
  rw [eq3]
  exact zkG (zkH L _ ((c_if a b c (h a (by simp [Nod.kids])) (h b (by simp [Nod.kids])) (h c (by simp [Nod.kids]))).less e) h) (by omega)
mutual
theorem zpE : ∀ n : Nod, WInf (4 * nsz n) (zao L n)
 | .mk k tx nn ln cl ts ns ks => ztv L _ (znS ks)
theorem znS : ∀ l : List Nod, ∀ x, x ∈ l -> WInf (4 * nsz x) (zao L x)
 | [], x, hx => by cases hx
 | n :: l, x, hx => by
  rcases List.mem_cons.1 hx with e | hx
  ·rw [e]; exact zpE n
  ·exact znS l x hx
end
end
def FunG (f : Fun) : Prop := CW 1 120005 f.body /\ f.name.size <= 30000000000
theorem zkI : ∀ (l : List Typ) (i : Nat) (s : ByteArray), (zcm l i s).size <= s.size + l.length * 20010
 | [], i, s => by rw [zcm]; omega
 | t :: l, i, s => by
  have h := zkI l (i + 1) (s ++ (if i = 0 then bs [91] else bs [44, 32]) ++ zdb t)
  have h2 := zgx t
  have h3 : (if i = 0 then bs [91] else bs [44, 32]).size <= 2 := by split <;> decide
  rw [zcm, List.length_cons]
  rw [ByteArray.size_append, ByteArray.size_append] at h
  omega
theorem fun_good {L : Lnk} (hG : LinkG L) {x : Ist} (hx : EntOk L ⟨bs [], x.module, x.decl⟩) (hxt : x.types.length <= 1000000) (s : CS) (hs : ∀ f, f ∈ s.funs -> FunG f) : ∀ f, f ∈ (funC L x s).funs -> FunG f := by
 have hd := (zdC hG hx).1
 have hdn := (zdC hG hx).2
 have hmn : (L.names.getD x.module.toNat (bs [])).size <= 32 := by
  rw [List.getD_eq_getElem?_getD]
  cases q : L.names[x.module.toNat]? with
  | none => decide
  | some z => exact hG.modNames z (List.mem_of_getElem? q)
 have f0 : fb (startC L x s) = fb s := rfl
 unfold funC
 unfold startC at f0
 simp only
 generalize decAt L x.module x.decl = d at *
 generalize ({ s with module := x.module, vars := d.vars.map (·.1), wth := x.types, e := 0 } : CS) = s0 at *
 have f1 := zeF (d.types.getD 0 noT) d.line d.col s0
 generalize zay (d.types.getD 0 noT) d.line d.col s0 = r1 at *
 have f2 := zeF (d.types.getD 1 noT) d.line d.col r1.2
 generalize zay (d.types.getD 1 noT) d.line d.col r1.2 = r2 at *
 obtain ⟨T, hT⟩ : ∃ T, (if r2.2.e = 0 then zbo (fnT r1.1 r2.1) d.line d.col r2.2 else (fnT r1.1 r2.1, r2.2)) = T := ⟨_, rfl⟩
 have p3 : fb T.2 = fb r2.2 := by
  rw [<- hT]
  split
  ·exact zlA _ _ _ _
  ·rfl
 rw [hT]
 clear hT
 obtain ⟨S, hS⟩ : ∃ S, (if x.module = L.main.module /\ x.decl = L.main.decl /\ zfA (bT 1) r1.1 = false then zaM d.line d.col 14 T.2 else T.2) = S := ⟨_, rfl⟩
 have p4 : fb S = fb T.2 := by
  rw [<- hS]
  split
  ·exact zpR _ _ _ _
  ·rfl
 rw [hS]
 clear hS
 have p5 := zpE L d.body [(d.param, r1.1)] S
 have f5 := zlB L d.body [(d.param, r1.1)] S
 generalize zao L d.body [(d.param, r1.1)] S = y at *
 have p6 := p5.coerce y.1.2 r2.1 d.body.line d.body.col y.2
 have f6 := zmz y.1.1 y.1.2 r2.1 d.body.line d.body.col y.2
 generalize zaG y.1.1 y.1.2 r2.1 d.body.line d.body.col y.2 = z at *
 have f : fb z.2 = fb s := by rw [f6, f5, p4, p3, f2, f1, f0]
 have g1 : z.2.funs = s.funs := congrArg (·.1) f
 have hsz : CW 1 120005 z.1 := p6.less (by have := hd.size; omega)
 have key : ∀ nm : ByteArray, nm.size <= 30000000000 -> ∀ f, f ∈ z.2.funs ++ [(⟨nm, T.1, z.1⟩ : Fun)] -> FunG f := fun nm hnm f hf => by
  rw [g1] at hf
  rcases List.mem_append.1 hf with hf | hf
  ·exact hs f hf
  ·rw [List.mem_singleton.1 hf]
   exact ⟨hsz, hnm⟩
 have hn1 := zkI x.types 0 (L.names.getD x.module.toNat (bs []) ++ bs [46] ++ d.name)
 have hb1 : (bs [46]).size = 1 := rfl
 have hb2 : (bs [93]).size = 1 := rfl
 have hn2 : (if 0 < x.types.length then zcm x.types 0 (L.names.getD x.module.toNat (bs []) ++ bs [46] ++ d.name) ++ bs [93] else zcm x.types 0 (L.names.getD x.module.toNat (bs []) ++ bs [46] ++ d.name)).size <= 30000000000 := by
  rw [ByteArray.size_append, ByteArray.size_append] at hn1
  split
  ·rw [ByteArray.size_append]; omega
  ·omega
 split
 ·exact key _ hn2
 ·exact key _ hn2
theorem zml {L : Lnk} (hG : LinkG L) : ∀ (n i : Nat) (s : CS), i + n <= 257 -> TOk L s i -> (∀ f, f ∈ s.funs -> FunG f) -> (∀ f, f ∈ (funsC L n i s).funs -> FunG f) /\ (funsC L n i s).funs.length <= 257
 | 0, i, s, hi, h, hf => by rw [funsC]; exact ⟨hf, by have := h.funs; omega⟩
 | n + 1, i, s, hi, h, hf => by
  rw [funsC]
  split
  ·rename_i q
   have hm : s.tab.getD i ⟨0, 0, []⟩ ∈ s.tab := by
    rw [List.getD_eq_getElem?_getD, List.getElem?_eq_getElem q]
    exact List.getElem_mem q
   have h1 := h.ist _ hm
   exact zml hG n (i + 1) _ (by omega) (fun_keep hG h1.1 h1.2 (by omega) h) (fun_good hG h1.1 h1.2 s hf)
  ·exact ⟨hf, by have := h.funs; omega⟩
theorem seedD_funs (L : Lnk) (i : Nat) : ∀ (l : List Dec) (k : Nat) (s : CS), (zcc L i l k s).1.funs = s.funs
 | [], k, s => by rw [zcc]
 | d :: l, k, s => by
  rw [zcc]
  split
  ·exact seedD_funs L i l (k + 1) s
  ·simp only
   split
   ·rfl
   ·rw [seedD_funs L i l (k + 1)]
theorem seedM_funs (L : Lnk) : ∀ (l : List Mdl) (i : Nat) (s : CS), (seedM L l i s).1.funs = s.funs
 | [], i, s => by rw [seedM]
 | m :: l, i, s => by
  rw [seedM]
  split
  ·exact seedD_funs L i m.decs 0 s
  ·rw [seedM_funs L l, seedD_funs]
theorem cs0_ok (L : Lnk) : TOk L cs0 0 := ⟨by simp [cs0], by simp [cs0], by simp [cs0], by simp [cs0], by simp [cs0]⟩
def PrgG (p : Prg) : Prop := (∀ f, f ∈ p.funs -> FunG f) /\ p.funs.length <= 257
theorem zo3 {L : Lnk} (hG : LinkG L) : PrgG (zeh L).1 := by
 have n0 : PrgG noPrg := ⟨fun f h => (by cases h), by decide⟩
 unfold zeh
 simp only
 split
 ·exact n0
 split
 ·exact n0
 ·have h0 := zor L.mods 0 cs0 (by simp) (cs0_ok L)
  have h := zml hG 257 0 (seedM L L.mods 0 cs0).1 (by omega) h0 (by rw [seedM_funs]; intro f hf; cases hf)
  exact h
theorem programP_good (l : List (ByteArray × ByteArray)) : PrgG (programP l).1 := by
 have n0 : PrgG noPrg := ⟨fun f h => (by cases h), by decide⟩
 unfold programP
 split
 ·exact n0
 simp only
 split
 ·exact n0
 ·exact zo3 (zlR l (by omega))
end Go.Gr
