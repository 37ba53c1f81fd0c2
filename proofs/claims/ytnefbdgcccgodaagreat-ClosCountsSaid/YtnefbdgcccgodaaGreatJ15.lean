/- Texts of ours, joined and written short by a program of ours. -/
import Derived.Test.YtnefbdgcccgodaaGreatJ14
set_option linter.unusedVariables false
set_option linter.unusedSimpArgs false
namespace Go.Gr
open Go.Abs Go.Proofs
def zb0 (l : List Bool) : List (List D) := l.map fun b => [.bool b]
@[simp] theorem zvg (l : List Bool) : (zb0 l).length = l.length := by simp [zb0]
@[simp] theorem zwo (l : List Bool) (k : Nat) : (zb0 l)[k]? = (l[k]?).map fun b => [.bool b] := by simp [zb0]
@[simp] theorem zwB (l : List Bool) (j : Nat) (h : j < (zb0 l).length) : (zb0 l)[j] = [.bool (l[j]'(by simpa using h))] := by simp [zb0]
theorem zrm (l : List Bool) (k : Nat) (b : Bool) : (zb0 l).set k [.bool b] = zb0 (l.set k b) := by simp [zb0, List.map_set]
abbrev zgy (l : List Bool) : Blk := .arr 1 ((zb0 l).map (·.map .d))
theorem zlS (l : List Bool) (k : Nat) (b : Bool) : ((zb0 l).map fun x => x.map AC.d).set k [.d (.bool b)] = (zb0 (l.set k b)).map fun x => x.map AC.d := by rw [<- zrm, List.map_set]; try rfl
theorem zhq (ns : List ByteArray) : ∀ (l : List Imp) (seen : List Bool), (zd7 ns l seen).length = seen.length
 | [], seen => rfl
 | x :: l, seen => by rw [zd7, zhq ns l]; split <;> simp
theorem zlT (ns : List ByteArray) : ∀ (l : List Mdl) (i : Nat) (seen : List Bool), (zeG ns l i seen).length = seen.length
 | [], i, seen => rfl
 | m :: l, i, seen => by rw [zeG, zlT ns l]; split; exact zhq ns _ _; rfl
theorem zsW {l : List Bool} {i z : Nat} (h : l.getD i false = true) : (l.set z true).getD i false = true := by
 rw [List.getD_eq_getElem?_getD] at h ⊢
 rw [List.getElem?_set]
 split
 ·split
  ·rfl
  ·rename_i h1 h2
   subst h1
   rw [List.getElem?_eq_none (by omega)] at h; exact h
 ·exact h
abbrev rchT (p : Lnk) (to n nn i : Nat) : List (Nat × AV) := [(9, .c (.d (.int .i64 i))), (8, .c (.d (.int .i64 nn))), (7, .c (.msl 1 0 0 n)), (3, .c (.d (.rp p.enc 0))), (2, .c (.d (.int .i64 to)))]
set_option maxRecDepth 20000 in
set_option maxHeartbeats 2000000 in
theorem zrn {c : Ctx} (hp : c.pure) (p : Lnk) (hp' : zdK p) (to nn i : Nat) (hi : i < p.mods.length) (m : Mdl) (hm : SmallM m) (s0 : List Bool) (hs0 : s0.length = p.mods.length) (F0 : List Bool) (hF : (if s0.getD i false = true then zd7 p.names m.imps s0 else s0) = F0) {Q : Exit -> St -> Prop} {S : St} {g} {ms : List Nat}
  (h0 : Match ms S ((11, .c (.d (.int .i64 0))) :: (10, .c (.d (.sl false 4 (m.imps.map Imp.enc)))) :: rchT p to p.mods.length nn i) [zgy s0])
  (hQ : ∀ T, Abs.look T 9 = .c (.d (.int .i64 i)) -> Abs.look T 8 = .c (.d (.int .i64 nn)) -> Abs.look T 7 = .c (.msl 1 0 0 p.mods.length) -> Abs.look T 3 = .c (.d (.rp p.enc 0)) -> Abs.look T 2 = .c (.d (.int .i64 to)) -> Q (.exit 4) ⟨T, hpOf [zgy F0], 1⟩) : lw_ Pg c zdf Q g S := by
 have hmi := hm.imps
 have h16 := hp'.1
 have hnn := hp'.2.1
 refine W.loop Pg_mixed hp (fun y : Nat × List Bool => y.1 <= m.imps.length /\ y.2.length = p.mods.length /\ (if y.2.getD i false = true then zd7 p.names (m.imps.drop y.1) y.2 else y.2) = F0) (fun y => (11, .c (.d (.int .i64 y.1))) :: (10, .c (.d (.sl false 4 (m.imps.map Imp.enc)))) :: rchT p to p.mods.length nn i) (fun y => [zgy y.2]) (fun y => m.imps.length - y.1) (0, s0) ms ⟨by simp, hs0, by simpa using hF⟩ h0 fun ⟨k, s⟩ ⟨i1, i2, i3⟩ => ?_
 unfold zdf
 simp only at i1 i2 i3
 have his : i < s.length := by omega
 have hgi : s.getD i false = s[i] := by rw [List.getD_eq_getElem?_getD, List.getElem?_eq_getElem his]; try rfl
 simp
 refine gd.mk (fun h => ?_) (fun h => ?_)
 ·have hk : k < m.imps.length := by simpa using h
  obtain ⟨x, hx⟩ : ∃ x, m.imps[k] = x := ⟨_, rfl⟩
  have hw := wrap_i64 (n := (k : Int) + 1) (by omega) (by omega)
  by_cases b : s.getD i false = true
  ·rw [if_pos b, List.drop_eq_getElem_cons hk, hx, zd7] at i3
   have b' : s[i] = true := by rw [<- hgi]; exact b
   have hml := ziM p.names x.from_
   have hmk := zek p.names x.from_
   generalize modZ p.names x.from_ = z at *
   simp [his, hi, b', hk, hx]
   refine zac.mk hmk ?_
   by_cases z0 : 0 <= z
   ·rw [if_pos z0] at i3
    obtain ⟨zn, rfl⟩ : ∃ zn : Nat, z = zn := ⟨z.toNat, by omega⟩
    have hzn : zn < p.mods.length := by omega
    have hzs : zn < s.length := by omega
    simp only [Int.toNat_natCast] at i3
    simp [hzn, hzs, zlS]
    refine ⟨by decide, ?_⟩
    refine Abs.Next.mk (k + 1, s.set zn true) [0] ⟨by simp only; omega, by simpa using i2, by simp only; rw [if_pos (zsW b)]; exact i3⟩ (by simp only; omega) ?_
    simp [hw]
   ·rw [if_neg z0] at i3
    simp [z0]
    refine ⟨by decide, ?_⟩
    refine Abs.Next.mk (k + 1, s) [0] ⟨by simp only; omega, i2, by simp only; rw [if_pos b]; exact i3⟩ (by simp only; omega) ?_
    simp [hw]
  ·rw [if_neg b] at i3
   subst i3
   have b' : s[i] = false := by rw [hgi] at b; simpa using b
   simp [his, hi, b']
   exact hQ _ (by simp) (by simp) (by simp) (by simp) (by simp)
 ·have hk : k = m.imps.length := by simp at h; omega
  subst hk
  rw [List.drop_length, zd7, ite_self] at i3
  subst i3
  simp
  exact hQ _ (by simp) (by simp) (by simp) (by simp) (by simp)
set_option maxRecDepth 20000 in
set_option maxHeartbeats 2000000 in
theorem zro {c : Ctx} (hp : c.pure) (p : Lnk) (hp' : zdK p) (to nn : Nat) (s0 : List Bool) (hs0 : s0.length = p.mods.length) (F0 : List Bool) (hF : zeG p.names p.mods 0 s0 = F0) {Q : Exit -> St -> Prop} {S : St} {g} {ms : List Nat}
  (h0 : Match ms S (rchT p to p.mods.length nn 0) [zgy s0])
  (hQ : ∀ T, Abs.look T 8 = .c (.d (.int .i64 nn)) -> Abs.look T 7 = .c (.msl 1 0 0 p.mods.length) -> Abs.look T 3 = .c (.d (.rp p.enc 0)) -> Abs.look T 2 = .c (.d (.int .i64 to)) -> Q (.exit 2) ⟨T, hpOf [zgy F0], 1⟩) : lw_ Pg c zdg Q g S := by
 have h16 := hp'.1
 refine W.loop Pg_mixed hp (fun y : Nat × List Bool => y.1 <= p.mods.length /\ y.2.length = p.mods.length /\ zeG p.names (p.mods.drop y.1) y.1 y.2 = F0) (fun y => rchT p to p.mods.length nn y.1) (fun y => [zgy y.2]) (fun y => p.mods.length - y.1) (0, s0) ms ⟨by simp, hs0, by simpa using hF⟩ h0 fun ⟨i, s⟩ ⟨i1, i2, i3⟩ => ?_
 unfold zdg
 simp only at i1 i2 i3
 simp
 refine gd.mk (fun h => ?_) (fun h => ?_)
 ·have hi : i < p.mods.length := by simpa using h
  obtain ⟨m, hm⟩ : ∃ m, p.mods[i] = m := ⟨_, rfl⟩
  have hsm := hp'.2.2 m (by rw [<- hm]; exact List.getElem_mem hi)
  rw [List.drop_eq_getElem_cons hi, hm, zeG] at i3
  have hw := wrap_i64 (n := (i : Int) + 1) (by omega) (by omega)
  have hle : (if s.getD i false = true then zd7 p.names m.imps s else s).length = p.mods.length := by
   split
   ·rw [zhq, i2]
   ·exact i2
  simp [hi, hm]
  refine zrn hp p hp' to nn i hi m hsm s i2 _ rfl (ms := [0]) (by simp) fun T t9 t8 t7 t3 t2 => ?_
  generalize (if s.getD i false = true then zd7 p.names m.imps s else s) = s2 at *
  simp [t9]
  refine Abs.Next.mk (i + 1, s2) [0] ⟨by simp only; omega, hle, i3⟩ (by simp only; omega) ?_
  simp [t9, t8, t7, t3, t2, hw]
 ·have hi : i = p.mods.length := by simp at h; omega
  subst hi
  rw [List.drop_length, zeG] at i3
  subst i3
  exact hQ _ (by simp) (by simp) (by simp) (by simp)
set_option maxRecDepth 20000 in
set_option maxHeartbeats 2000000 in
theorem zp3 (p : Lnk) (hp' : zdK p) (f t : Nat) (hf : f < p.mods.length) (ht : t < p.mods.length) : PCall Pg F.g07_reached [.agg p.enc, .one (.int .i64 f), .one (.int .i64 t)] (.one (.bool (zd0 p.names p.mods f t))) := by
 refine zmL (by simp) fun o c hN hp => ?_
 obtain ⟨R, hR⟩ : ∃ R, zd0 p.names p.mods f t = R := ⟨_, rfl⟩
 rw [hR]
 unfold zd0 at hR
 have h16 := hp'.1
 have hrep : ∀ n : Nat, (List.replicate n [D.bool false]).map (fun x => x.map AC.d) = (zb0 (List.replicate n false)).map (fun x => x.map AC.d) := fun n => by simp [zb0]
 obtain ⟨s0, hs⟩ : ∃ s0, (List.replicate p.mods.length false).set f true = s0 := ⟨_, rfl⟩
 have hs0 : s0.length = p.mods.length := by rw [<- hs]; simp
 rw [hs] at hR
 unfold zf0
 simp [hf]
 refine ⟨by omega, ?_⟩
 have e0 : (List.replicate p.mods.length [AC.d (D.bool false)]).set f [AC.d (D.bool true)] = (zb0 s0).map fun x => x.map AC.d := by
  rw [<- hs, <- zlS]
  simp [zb0]
 rw [e0]
 refine W.loop Pg_mixed hp (fun y : Nat × List Bool => y.1 <= p.mods.length /\ y.2.length = p.mods.length /\ (zk5 p.names p.mods (p.mods.length - y.1) y.2).getD t false = R) (fun y => [(8, .c (.d (.int .i64 y.1))), (7, .c (.msl 1 0 0 p.mods.length)), (3, .c (.d (.rp p.enc 0))), (2, .c (.d (.int .i64 t)))]) (fun y => [zgy y.2]) (fun y => p.mods.length - y.1) (0, s0) [0] ⟨by simp, hs0, hR⟩ (by simp) fun ⟨nn, s⟩ ⟨i1, i2, i3⟩ => ?_
 unfold zeY
 simp only at i1 i2 i3
 simp
 refine gd.mk (fun h => ?_) (fun h => ?_)
 ·have hn : nn < p.mods.length := by simpa using h
  rw [show p.mods.length - nn = (p.mods.length - (nn + 1)) + 1 by omega, zk5] at i3
  have hw := wrap_i64 (n := (nn : Int) + 1) (by omega) (by omega)
  refine zro hp p hp' t nn s i2 _ rfl (ms := [0]) (by simp) fun T t8 t7 t3 t2 => ?_
  have hl := zlT p.names p.mods 0 s
  generalize zeG p.names p.mods 0 s = s2 at *
  simp [t8]
  refine Abs.Next.mk (nn + 1, s2) [0] ⟨by simp only; omega, by simp only; omega, i3⟩ (by simp only; omega) ?_
  simp [t8, t7, t3, t2, hw]
 ·have hn : nn = p.mods.length := by simp at h; omega
  subst hn
  rw [Nat.sub_self, zk5, List.getD_eq_getElem?_getD, List.getElem?_eq_getElem (by omega)] at i3
  have hts : t < s.length := by omega
  simp at i3
  simp [ht, hts, i3]
theorem zj2 (ns : List ByteArray) (ms : List Mdl) (i : Nat) : ∀ (l : List Imp) (bad : List Dia), (zc7 ns ms i l bad).length <= bad.length + l.length
 | [], bad => by simp [zc7]
 | x :: l, bad => by
  rw [zc7]
  have := zj2 ns ms i l (if 0 <= modZ ns x.from_ /\ zd0 ns ms (modZ ns x.from_).toNat i = true then bad ++ [⟨i, x.line, x.col, 13⟩] else bad)
  refine Nat.le_trans this ?_
  split <;> simp <;> omega
abbrev thiT (p : Lnk) (i nb : Nat) : List (Nat × AV) := [(4, .c (.d (.int .i64 i))), (3, .c (.msl 4 0 0 nb)), (1, .c (.d (.rp p.enc 0)))]
set_option maxRecDepth 20000 in
set_option maxHeartbeats 2000000 in
theorem zrp {c : Ctx} (hp : c.pure) (p : Lnk) (hp' : zdK p) (i : Nat) (hi : i < p.mods.length) (m : Mdl) (hm : SmallM m) (b0 : List Dia) (hb0 : b0.length <= 10000000) (F0 : List Dia) (hF : zc7 p.names p.mods i m.imps b0 = F0) {Q : Exit -> St -> Prop} {S : St} {g} {ms : List Nat}
  (h0 : Match ms S ((6, .c (.d (.int .i64 0))) :: (5, .c (.d (.sl false 4 (m.imps.map Imp.enc)))) :: thiT p i b0.length) [diaA b0])
  (hQ : ∀ T, Abs.look T 4 = .c (.d (.int .i64 i)) -> Abs.look T 3 = .c (.msl 4 0 0 F0.length) -> Abs.look T 1 = .c (.d (.rp p.enc 0)) -> Q (.exit 2) ⟨T, hpOf [diaA F0], 1⟩) : lw_ Pg c zdO Q g S := by
 have hmi := hm.imps
 have h16 := hp'.1
 have hnn := hp'.2.1
 refine W.loop Pg_mixed hp (fun y : Nat × List Dia => y.1 <= m.imps.length /\ y.2.length <= b0.length + y.1 /\ zc7 p.names p.mods i (m.imps.drop y.1) y.2 = F0) (fun y => (6, .c (.d (.int .i64 y.1))) :: (5, .c (.d (.sl false 4 (m.imps.map Imp.enc)))) :: thiT p i y.2.length) (fun y => [diaA y.2]) (fun y => m.imps.length - y.1) (0, b0) ms ⟨by simp, by simp, by simpa using hF⟩ h0 fun ⟨k, bad⟩ ⟨i1, i2, i3⟩ => ?_
 unfold zdO
 simp only at i1 i2 i3
 simp
 refine gd.mk (fun h => ?_) (fun h => ?_)
 ·have hk : k < m.imps.length := by simpa using h
  obtain ⟨x, hx⟩ : ∃ x, m.imps[k] = x := ⟨_, rfl⟩
  have hw := wrap_i64 (n := (k : Int) + 1) (by omega) (by omega)
  rw [List.drop_eq_getElem_cons hk, hx, zc7] at i3
  have hml := ziM p.names x.from_
  have hmk := zek p.names x.from_
  generalize modZ p.names x.from_ = z at *
  simp [hk, hx]
  refine zac.mk hmk ?_
  by_cases z0 : 0 <= z
  ·obtain ⟨zn, rfl⟩ : ∃ zn : Nat, z = zn := ⟨z.toNat, by omega⟩
   simp only [Int.toNat_natCast] at i3
   have hro := zp3 p hp' zn i (by omega) hi
   obtain ⟨r, hr⟩ : ∃ r, zd0 p.names p.mods zn i = r := ⟨_, rfl⟩
   simp only [hr] at i3 hro
   simp
   refine ⟨by decide, ?_⟩
   refine zac.mk hro ?_
   cases r with
   | true =>
    rw [if_pos ⟨z0, rfl⟩] at i3
    simp [hk, hx]
    refine ⟨by omega, by decide, ?_⟩
    refine Abs.Next.mk (k + 1, bad ++ [⟨i, x.line, x.col, 13⟩]) [1] ⟨by simp only; omega, by simp; omega, i3⟩ (by simp only; omega) ?_
    simp [hw, Dia.enc]
    exact zaF _ _
   | false =>
    rw [if_neg (fun q => by cases q.2)] at i3
    simp
    refine Abs.Next.mk (k + 1, bad) [0] ⟨by simp only; omega, by simp only; omega, i3⟩ (by simp only; omega) ?_
    simp [hw]
  ·rw [if_neg (fun q => z0 q.1)] at i3
   simp [z0]
   refine ⟨by decide, ?_⟩
   refine Abs.Next.mk (k + 1, bad) [0] ⟨by simp only; omega, by simp only; omega, i3⟩ (by simp only; omega) ?_
   simp [hw]
 ·have hk : k = m.imps.length := by simp at h; omega
  subst hk
  rw [List.drop_length, zc7] at i3
  subst i3
  exact hQ _ (by simp) (by simp) (by simp)
set_option maxRecDepth 20000 in
set_option maxHeartbeats 2000000 in
theorem zsX (p : Lnk) (hp' : zdK p) : PCall Pg F.g07_third [.agg p.enc] (.one (.sl false 4 ((zc8 p.names p.mods p.mods 0 []).map Dia.enc))) := by
 refine zoP (by simp) fun o c hN hp => ?_
 obtain ⟨R, hR⟩ : ∃ R, zc8 p.names p.mods p.mods 0 [] = R := ⟨_, rfl⟩
 rw [hR]
 have h16 := hp'.1
 unfold zhx
 simp
 refine owK.mk [.t 3] ?_
 simp
 refine W.loop Pg_mixed hp (fun y : Nat × List Dia => y.1 <= p.mods.length /\ y.2.length <= y.1 * 10001 /\ zc8 p.names p.mods (p.mods.drop y.1) y.1 y.2 = R) (fun y => thiT p y.1 y.2.length) (fun y => [diaA y.2]) (fun y => p.mods.length - y.1) (0, []) [0] ⟨by simp, by simp, by simpa using hR⟩ (by simp) fun ⟨i, bad⟩ ⟨i1, i2, i3⟩ => ?_
 unfold zf1
 simp only at i1 i2 i3
 simp
 refine gd.mk (fun h => ?_) (fun h => ?_)
 ·have hi : i < p.mods.length := by simpa using h
  obtain ⟨m, hm⟩ : ∃ m, p.mods[i] = m := ⟨_, rfl⟩
  have hsm := hp'.2.2 m (by rw [<- hm]; exact List.getElem_mem hi)
  have hmi := hsm.imps
  rw [List.drop_eq_getElem_cons hi, hm, zc8] at i3
  have hw := wrap_i64 (n := (i : Int) + 1) (by omega) (by omega)
  have htl := zj2 p.names p.mods i m.imps bad
  simp [hi, hm]
  refine zrp hp p hp' i hi m hsm bad (by omega) _ rfl (ms := [0]) (by simp) fun T t4 t3 t1 => ?_
  generalize zc7 p.names p.mods i m.imps bad = b2 at *
  simp [t4]
  refine Abs.Next.mk (i + 1, b2) [0] ⟨by simp only; omega, by simp only; omega, i3⟩ (by simp only; omega) ?_
  simp [t4, t3, t1, hw]
 ·have hi : i = p.mods.length := by simp at h; omega
  subst hi
  rw [List.drop_length, zc8] at i3
  subst i3
  simp [zaF]
theorem zj3 (L : List Tok) : ∀ (n : Nat) (l : List ByteArray) (p : PS), (zbE L n l p).1.length <= l.length + n
 | 0, l, p => by simp [zbE]
 | n + 1, l, p => by
  rw [zbE]
  split
  ·have := zj3 L n (l ++ [(zaz L p).1]) (zab L (bs [44]) (zaz L p).2).2
   simp at this ⊢; omega
  ·simp
theorem zlU (L : List Tok) (hL : L.length <= 10000) : ∀ (n : Nat) (l : List Imp) (p : PS), (∀ x, x ∈ l -> x.names.length <= 10001) -> (zcY L n l p).1.length <= l.length + n /\ ∀ x, x ∈ (zcY L n l p).1 -> x.names.length <= 10001
 | 0, l, p, h => by simp [zcY]; exact h
 | n + 1, l, p, h => by
  rw [zcY]
  split
  ·simp only
   have hn := zj3 L (L.length + 1) [] (zax L (bs [58]) (zaz L (zab L zbN p).2).2)
   have := zlU L hL n (l ++ [⟨(zaz L (zab L zbN p).2).1, (zbE L (L.length + 1) [] (zax L (bs [58]) (zaz L (zab L zbN p).2).2)).1, (curT L p).line, (curT L p).col⟩]) (zax L (bs [59]) (zbE L (L.length + 1) [] (zax L (bs [58]) (zaz L (zab L zbN p).2).2)).2) (fun x hx => by
    rcases List.mem_append.1 hx with hx | hx
    ·exact h x hx
    ·simp at hx; subst hx; simp at hn ⊢; omega)
   refine ⟨?_, this.2⟩
   have h1 := this.1
   simp at h1 ⊢; omega
  ·exact ⟨by simp, h⟩
theorem zlV (L : List Tok) : ∀ (n : Nat) (l : List Dec) (p : PS), (zb8 L n l p).1.length <= l.length + n
 | 0, l, p => by simp [zb8]
 | n + 1, l, p => by
  rw [zb8]
  split
  ·have := zlV L n (l ++ [(decP L p).1]) (decP L p).2
   simp at this ⊢; omega
  ·simp
theorem zoJ (s : ByteArray) : SmallM (zba s).1 := by
 have h0 : SmallM noM := ⟨by simp [noM], by simp [noM], by simp [noM]⟩
 have hk := zlm (s := s)
 unfold zba
 simp only
 split
 ·exact h0
 split
 ·exact h0
 ·rename_i h1 h2
  obtain ⟨hL, hl⟩ := hk (by simpa using h1)
  unfold zdr
  simp only
  generalize (lexP s).1 = L at *
  have a := zlU L hl (L.length + 1) [] ps0 (by simp)
  have b := zlV L (L.length + 1) [] (zcY L (L.length + 1) [] ps0).2
  exact ⟨by have := a.1; simp at this; simp only; omega, a.2, by simp at b; simp only; omega⟩
theorem zhr : ∀ (l : List (ByteArray × ByteArray)) (i : Nat) (ns : List ByteArray) (ms : List Mdl) (bad : List Dia), ns.length = ms.length -> (∀ m, m ∈ ms -> SmallM m) ->
  (zbq l i ns ms bad).1.1.length = (zbq l i ns ms bad).1.2.length /\ (zbq l i ns ms bad).1.2.length = ms.length + l.length /\ ∀ m, m ∈ (zbq l i ns ms bad).1.2 -> SmallM m
 | [], i, ns, ms, bad, h1, h2 => by rw [zbq]; exact ⟨h1, by simp, h2⟩
 | s :: l, i, ns, ms, bad, h1, h2 => by
  rw [zbq]
  have := zhr l (i + 1) (ns ++ [s.1]) (ms ++ [(zba s.2).1]) (if zbm s.1 = false then bad ++ [⟨i, 1, 1, 10⟩] else if 0 <= modZ ns s.1 then bad ++ [⟨i, 1, 1, 8⟩] else if (zba s.2).2.e ≠ 0 then bad ++ [⟨i, (zba s.2).2.line, (zba s.2).2.col, (zba s.2).2.e⟩] else bad) (by simp [h1]) (fun m hm => by
   rcases List.mem_append.1 hm with hm | hm
   ·exact h2 m hm
   ·simp at hm; subst hm; exact zoJ _)
  refine ⟨this.1, ?_, this.2.2⟩
  have h3 := this.2.1
  simp at h3 ⊢; omega
theorem ziR (l : List (ByteArray × ByteArray)) (sc : List (List Ent)) : zdK ⟨(zbS l).1.1, (zbS l).1.2, sc, noE⟩ := by
 unfold zbS
 split
 ·exact ⟨by simp, rfl, by simp⟩
 ·have := zhr l 0 [] [] [] rfl (by simp)
  exact ⟨by have := this.2.1; simp at this; simp only; omega, this.1, this.2.2⟩
abbrev lnkV (r : Lnk × List Dia) : DV := .tup [.agg r.1.enc, .one (.sl false 4 (r.2.map Dia.enc))]
theorem zuv (x : List ByteArray × List Mdl) (s : List (List Ent)) : put ((lnk1 x).enc.map AC.d) 2 [.d (.sl false 1 (s.map scpE))] = (⟨x.1, x.2, s, noE⟩ : Lnk).enc.map .d := rfl
theorem zsY (a : List ByteArray) (b : List Mdl) (s : List (List Ent)) (n : ByteArray) (m k : Int) : splice ((⟨a, b, s, noE⟩ : Lnk).enc.map AC.d) 3 [.d (.str n), .d (.int .i64 m), .d (.int .i64 k)] = (⟨a, b, s, ⟨n, m, k⟩⟩ : Lnk).enc.map .d := rfl
theorem zrq (a : List ByteArray) (b : List Mdl) (s : List (List Ent)) (n : ByteArray) (m k : Int) : put ((⟨a, b, s, noE⟩ : Lnk).enc.map AC.d) 3 [.d (.str n), .d (.int .i64 m), .d (.int .i64 k)] = (⟨a, b, s, ⟨n, m, k⟩⟩ : Lnk).enc.map .d := rfl
attribute [simp] zuv zsY zrq
theorem zeI : noL.enc = [.sl false 1 [], .sl false 2 [], .sl false 1 [], .str (bs []), .int .i64 0, .int .i64 0] := rfl
set_option maxRecDepth 20000 in
set_option maxHeartbeats 4000000 in
theorem zuw (l : List (ByteArray × ByteArray)) : PCall Pg F.g07_Link [.one (.sl false 2 (l.map srcE))] (lnkV (zfE l)) := by
 refine zqi (by simp) fun o c hN hp => ?_
 obtain ⟨R, hR⟩ : ∃ R, zfE l = R := ⟨_, rfl⟩
 rw [hR]
 unfold zfE at hR
 simp only at hR
 have hfs := ziR l
 have hf := zt2 l
 generalize zbS l = f at *
 unfold zi7
 simp
 refine zac.mk hf ?_
 by_cases f0 : 0 < f.2.length
 ·rw [if_pos f0] at hR
  subst hR
  simp [f0, zeI]
 rw [if_neg f0] at hR
 have hsec : PCall Pg F.g07_second [.agg (lnk1 f.1).enc] (.tup [.one (.sl false 1 ((zbs f.1.1 f.1.2 f.1.2 0 [] []).1.map scpE)), .one (.sl false 4 ((zbs f.1.1 f.1.2 f.1.2 0 [] []).2.map Dia.enc))]) := zr3 (lnk1 f.1) (hfs [])
 generalize zbs f.1.1 f.1.2 f.1.2 0 [] [] = s at *
 simp [f0]
 refine zac.mk hsec ?_
 by_cases s0 : 0 < s.2.length
 ·rw [if_pos s0] at hR
  subst hR
  simp [s0, zeI]
 rw [if_neg s0] at hR
 have hthi : PCall Pg F.g07_third [.agg (⟨f.1.1, f.1.2, s.1, noE⟩ : Lnk).enc] (.one (.sl false 4 ((zc8 f.1.1 f.1.2 f.1.2 0 []).map Dia.enc))) := zsX ⟨f.1.1, f.1.2, s.1, noE⟩ (hfs s.1)
 generalize zc8 f.1.1 f.1.2 f.1.2 0 [] = t at *
 simp [s0]
 refine zac.mk hthi ?_
 by_cases t0 : 0 < t.length
 ·rw [if_pos t0] at hR
  subst hR
  simp [t0, zeI]
 rw [if_neg t0] at hR
 have hmk := zek f.1.1 zcn
 have hml := ziM f.1.1 zcn
 have hsm := hfs s.1
 have hnn : f.1.1.length = f.1.2.length := hsm.2.1
 generalize modZ f.1.1 zcn = z at *
 simp [t0]
 refine zac.mk hmk ?_
 by_cases z0 : z < 0
 ·rw [if_pos z0] at hR
  subst hR
  simp [z0, zeI, Dia.enc]
 rw [if_neg z0] at hR
 obtain ⟨g1, g2⟩ := zeP f.1.2 noM (z := z) (n := f.1.1.length) (by rw [hnn]) (by omega) (by omega)
 generalize f.1.2.getD z.toNat noM = M at *
 have hM := hsm.2.2 M g2
 have hMd := hM.decs
 obtain ⟨zn, rfl⟩ : ∃ zn : Nat, z = zn := ⟨z.toNat, by omega⟩
 simp only [Int.toNat_natCast] at g1
 have hdk := zpT M zcn (by omega)
 have hdl := zoy M zcn
 generalize zbU M zcn = k at *
 simp [z0, g1]
 refine zac.mk hdk ?_
 by_cases k0 : k < 0
 ·rw [if_pos k0] at hR
  subst hR
  simp [k0, zeI, Dia.enc]
 rw [if_neg k0] at hR
 obtain ⟨g3, g4⟩ := zeP M.decs zfD (z := k) (n := M.decs.length) rfl (by omega) (by omega)
 generalize M.decs.getD k.toNat zfD = d at *
 obtain ⟨kn, rfl⟩ : ∃ kn : Nat, k = kn := ⟨k.toNat, by omega⟩
 simp only [Int.toNat_natCast] at g3
 by_cases v0 : 0 < d.vars.length
 ·rw [if_pos v0] at hR
  subst hR
  simp [k0, g1, g3, v0, zeI, Dia.enc]
  decide
 ·rw [if_neg v0] at hR
  subst hR
  simp [k0, g1, g3, v0]
end Go.Gr
