/- Texts of ours, joined and written short by a program of ours. -/
import Derived.Test.YtnefbdgcccgodaaGreatJ05
import Derived.Carry
import Derived.ChangeArms
import Derived.SizedLaws
set_option linter.unusedVariables false
namespace Go.Abs
def gd (b want : Bool) (A B : Prop) : Prop := (b = want -> A) /\ (b = (!want) -> B)
@[simp ↓] theorem zxT (A B : Prop) : gd true true A B = A := by simp [gd]
@[simp ↓] theorem zxU (A B : Prop) : gd false false A B = A := by simp [gd]
@[simp ↓] theorem zxV (A B : Prop) : gd true false A B = B := by simp [gd]
@[simp ↓] theorem zxW (A B : Prop) : gd false true A B = B := by simp [gd]
theorem gd.mk {b want : Bool} {A B : Prop} (h1 : b = want -> A) (h2 : b = (!want) -> B) : gd b want A B := ⟨h1, h2⟩
structure Tag {α : Type} (a : α) : Type where
 mk ::
def zac (P : Program) (f : FuncId) (ds : List DV) (K : DV -> Prop) (_ : Tag K) : Prop := ∃ v, PCall P f ds v /\ K v
theorem zac.mk {P : Program} {f : FuncId} {ds : List DV} {K : DV -> Prop} {t : Tag K} {v : DV} (h : PCall P f ds v) (k : K v) : zac P f ds K t := ⟨v, h, k⟩
def isB (q : Value -> Prop) : Prop := ∀ v, q v -> zeJ v
@[simp] theorem zwE : isB zeJ := fun _ h => h
def W (P : Program) (c : Ctx) : MC -> (Exit -> St -> Prop) -> St -> Prop
 | .skip, Q, S => Q .normal S
 | .reg os, Q, S => runO P os S (fun S' => Q .normal S')
 | .regd bef os, Q, S => runD P os S [] (fun S' fps => zkb bef fps = true /\ Q .normal S')
 | .seq a b, Q, S => W P c a (thenQ (W P c b Q) Q) S
 | .cond (.t k) a b, Q, S => match S.get k with
  | .c (.d (.bool t)) => gd t true (W P c a Q (S.know k true)) (W P c b Q (S.know k false))
  | .c (.op q) => isB q /\ W P c a Q S /\ W P c b Q S
  | _ => False
 | .cond (.k _) _ _, _, _ => False
 | .block i b, Q, S => W P c b (blockQ i Q) S
 | .loop b, Q, S => AW P c (.loop b) Q S
 | .exit i, Q, S => Q (.exit i) S
 | .ret, Q, S => Q .ret S
 | .fzq a, Q, S => ∃ l, fzG S l fun S' => W P c a Q S'
 | .owq a, Q, S => ∃ l, owG S l fun S' => W P c a Q S'
theorem W.aw {P : Program} {c : Ctx} (hm : P.follows .mixedOrders = true) : ∀ {mc : MC} {Q : Exit -> St -> Prop} {S : St}, W P c mc Q S -> AW P c mc Q S
 | .skip, Q, S, h => AW.skip h
 | .reg os, Q, S, h => AW.reg h
 | .regd bef os, Q, S, h => AW.regd hm h
 | .seq a b, Q, S, h => AW.seq ((show AW P c a (thenQ (W P c b Q) Q) S from W.aw hm h).mono (Q' := thenQ (AW P c b Q) Q) fun e S' q => by
   cases e with
   | normal => exact W.aw hm q
   | _ => exact q)
 | .cond (.t k) a b, Q, S, h => by
  simp only [W] at h
  split at h
  ·rename_i t e
   refine AW.cond (x := .t k) e (fun ht => ?_) (fun ht => ?_)
   ·have h1 := W.aw hm (h.1 ht)
    intro code hc ac w r
    rw [ht] at e
    exact h1 code hc ac w (by rw [St.know_get e]; exact r)
   ·have h1 := W.aw hm (h.2 (by simpa using ht))
    intro code hc ac w r
    rw [ht] at e
    exact h1 code hc ac w (by rw [St.know_get e]; exact r)
  ·rename_i q e
   exact AW.condU (x := .t k) e h.1 (W.aw hm h.2.1) (W.aw hm h.2.2)
  ·exact h.elim
 | .cond (.k x) a b, Q, S, h => False.elim h
 | .block i b, Q, S, h => AW.block (W.aw hm h)
 | .loop b, Q, S, h => h
 | .exit i, Q, S, h => AW.exit h
 | .ret, Q, S, h => AW.ret h
 | .fzq a, Q, S, h => by
  obtain ⟨l, h⟩ := h
  exact AW.fzq l (fzG.mono l h fun S' k => W.aw hm k)
 | .owq a, Q, S, h => by
  obtain ⟨l, h⟩ := h
  exact AW.owq l (owG.mono l h fun S' k => W.aw hm k)
def fzK (S : St) (K : St -> Prop) (_ : Tag K) : Prop := ∃ l, fzG S l K
def owK (S : St) (K : St -> Prop) (_ : Tag K) : Prop := ∃ l, owG S l K
theorem owK.mk {S : St} {K : St -> Prop} {g : Tag K} (l : List OwP) (h : owG S l K) : owK S K g := ⟨l, h⟩
theorem fzK.mk {S : St} {K : St -> Prop} {g : Tag K} (l : List Nat) (h : fzG S l K) : fzK S K g := ⟨l, h⟩
def w_ (P : Program) (c : Ctx) (mc : MC) (Q : Exit -> St -> Prop) (_ : Tag (mc, Q)) (S : St) : Prop := W P c mc Q S
def lw_ (P : Program) (c : Ctx) (mc : MC) (Q : Exit -> St -> Prop) (_ : Tag (mc, Q)) (S : St) : Prop := AW P c (.loop mc) Q S
def rO (P : Program) (os : List MO) (K : St -> Prop) (_ : Tag (os, K)) (S : St) : Prop := runO P os S K
def rD (P : Program) (os : List MO) (K : St -> List FP -> Prop) (_ : Tag (os, K)) (S : St) (fps : List FP) : Prop := runD P os S fps K
def eV (P : Program) (K : AV -> List Nat -> List (Nat × Blk) -> Nat -> Prop) (op : MOp) (_ : Tag (op, K)) (get : Nat -> AV) (m : Hp) (n : Nat) : Prop := ev P get m n K op
def Next {Y : Type} (I : Y -> Prop) (t : Y -> List (Nat × AV)) (bs : Y -> List Blk) (μ : Y -> Nat) (x : Y) (_ : Tag (I, t, bs, μ, x)) (S : St) : Prop := ∃ x' l, I x' /\ Match l S (t x') (bs x') /\ μ x' < μ x
theorem Next.mk {Y : Type} {I : Y -> Prop} {t : Y -> List (Nat × AV)} {bs : Y -> List Blk} {μ : Y -> Nat} {x : Y} {g : Tag (I, t, bs, μ, x)} {S : St} (x' : Y) (l : List Nat) (h1 : I x') (h2 : μ x' < μ x) (h3 : Match l S (t x') (bs x')) : Next I t bs μ x g S := ⟨x', l, h1, h3, h2⟩
theorem W.loop {P : Program} {c : Ctx} {Q : Exit -> St -> Prop} {S : St} {Y : Type} (hm : P.follows .mixedOrders = true) (hp : c.pure) {body : MC} {g : Tag (body, Q)} (I : Y -> Prop) (t : Y -> List (Nat × AV)) (bs : Y -> List Blk) (μ : Y -> Nat) (x0 : Y) (l0 : List Nat) (hI : I x0) (h0 : Match l0 S (t x0) (bs x0))
  (round : ∀ x, I x -> w_ P c body (thenQ (Next I t bs μ x ⟨⟩) Q) ⟨⟩ (hd (t x) (bs x))) : lw_ P c body Q g S :=
 AW.loop hp I t bs μ hI h0 fun x hx => W.aw hm (round x hx)
section
variable {P : Program} {c : Ctx} {Q : Exit -> St -> Prop} {S : St}
theorem zaw {mc : MC} (h : w_ P c mc Q ⟨⟩ S) : W P c mc Q S := h
@[simp] theorem zxC {g} : w_ P c .skip Q g S = Q .normal S := (Eq.refl _).trans rfl
@[simp] theorem zxX (os : List MO) {g} : w_ P c (.reg os) Q g S = rO P os (fun S' => Q .normal S') ⟨⟩ S := (Eq.refl _).trans rfl
@[simp] theorem zxD (bef : List Nat) (os : List MO) {g} : w_ P c (.regd bef os) Q g S = rD P os (fun S' fps => zkb bef fps = true /\ Q .normal S') ⟨⟩ S [] := (Eq.refl _).trans rfl
@[simp] theorem zxY (a b : MC) {g} : w_ P c (.seq a b) Q g S = w_ P c a (thenQ (w_ P c b Q ⟨⟩) Q) ⟨⟩ S := (Eq.refl _).trans rfl
@[simp] theorem zxE (k : Nat) (a b : MC) {g} : w_ P c (.cond (.t k) a b) Q g S = (match S.get k with
  | .c (.d (.bool t)) => gd t true (w_ P c a Q ⟨⟩ (S.know k true)) (w_ P c b Q ⟨⟩ (S.know k false))
  | .c (.op q) => isB q /\ w_ P c a Q ⟨⟩ S /\ w_ P c b Q ⟨⟩ S
  | _ => False) := (Eq.refl _).trans rfl
@[simp] theorem zw8 (i : Nat) (b : MC) {g} : w_ P c (.block i b) Q g S = w_ P c b (blockQ i Q) ⟨⟩ S := (Eq.refl _).trans rfl
@[simp] theorem zxF (b : MC) {g} : w_ P c (.loop b) Q g S = lw_ P c b Q ⟨⟩ S := (Eq.refl _).trans rfl
@[simp] theorem zxG (i : Nat) {g} : w_ P c (.exit i) Q g S = Q (.exit i) S := (Eq.refl _).trans rfl
@[simp] theorem zxZ (a : MC) {g} : w_ P c (.fzq a) Q g S = fzK S (fun S' => w_ P c a Q ⟨⟩ S') ⟨⟩ := (Eq.refl _).trans rfl
@[simp] theorem zx0 (a : MC) {g} : w_ P c (.owq a) Q g S = owK S (fun S' => w_ P c a Q ⟨⟩ S') ⟨⟩ := (Eq.refl _).trans rfl
@[simp] theorem zx1 {g} : w_ P c .ret Q g S = Q .ret S := (Eq.refl _).trans rfl
@[simp] theorem zxH (K : St -> Prop) {g} : rO P [] K g S = K S := (Eq.refl _).trans rfl
@[simp] theorem zw9 (d : Option Nat) (op : MOp) (os : List MO) (K : St -> Prop) {g} : rO P (⟨none, d, op⟩ :: os) K g S = eV P (fun v _ wr n => rO P os K ⟨⟩ (S.put d v wr n)) op ⟨⟩ S.get S.m S.n := (Eq.refl _).trans rfl
@[simp] theorem zxa (t : Nat) (want : Bool) (d : Option Nat) (op : MOp) (os : List MO) (K : St -> Prop) {g} : rO P (⟨some (t, want), d, op⟩ :: os) K g S = (match S.get t with
   | .c (.d (.bool b)) => gd b want (rO P (⟨none, d, op⟩ :: os) K ⟨⟩ (S.know t want)) (rO P os K ⟨⟩ ((S.know t (!want)).put d zbJ [] S.n))
   | .c (.d (.sc (.tuple _))) => rO P os K ⟨⟩ (S.put d zbJ [] S.n)
   | _ => False) := (Eq.refl _).trans rfl
@[simp] theorem zxI (fps : List FP) (K : St -> List FP -> Prop) {g} : rD P [] K g S fps = K S fps.reverse := (Eq.refl _).trans rfl
@[simp] theorem zxb (d : Option Nat) (op : MOp) (os : List MO) (fps : List FP) (K : St -> List FP -> Prop) {g} : rD P (⟨none, d, op⟩ :: os) K g S fps = eV P (fun v rd wr n => rD P os K ⟨⟩ (S.put d v wr n) ((rd, wr.map (·.1)) :: fps)) op ⟨⟩ S.get S.m S.n := (Eq.refl _).trans rfl
@[simp] theorem zxc (t : Nat) (want : Bool) (d : Option Nat) (op : MOp) (os : List MO) (fps : List FP) (K : St -> List FP -> Prop) {g} : rD P (⟨some (t, want), d, op⟩ :: os) K g S fps = (match S.get t with
   | .c (.d (.bool b)) => gd b want (rD P (⟨none, d, op⟩ :: os) K ⟨⟩ (S.know t want) fps) (rD P os K ⟨⟩ ((S.know t (!want)).put d zbJ [] S.n) (([], []) :: fps))
   | .c (.d (.sc (.tuple _))) => rD P os K ⟨⟩ (S.put d zbJ [] S.n) (([], []) :: fps)
   | _ => False) := (Eq.refl _).trans rfl
end
@[simp] theorem St.get_mk (t : List (Nat × AV)) (m : Hp) (n k : Nat) : St.get ⟨t, m, n⟩ k = look t k := (Eq.refl _).trans rfl
@[simp] theorem St.get_eta (t : List (Nat × AV)) (m : Hp) (n : Nat) : St.get ⟨t, m, n⟩ = look t := (Eq.refl _).trans rfl
@[simp] theorem St.put_some (t : List (Nat × AV)) (m : Hp) (n d : Nat) (v : AV) (wr : List (Nat × Blk)) (n' : Nat) : St.put ⟨t, m, n⟩ (some d) v wr n' = ⟨(d, v) :: t, wrs m wr, n'⟩ := (Eq.refl _).trans rfl
@[simp] theorem St.put_none (t : List (Nat × AV)) (m : Hp) (n : Nat) (v : AV) (wr : List (Nat × Blk)) (n' : Nat) : St.put ⟨t, m, n⟩ none v wr n' = ⟨t, wrs m wr, n'⟩ := (Eq.refl _).trans rfl
@[simp] theorem St.know_mk (t : List (Nat × AV)) (m : Hp) (n k : Nat) (b : Bool) : St.know ⟨t, m, n⟩ k b = ⟨(k, .c (.d (.bool b))) :: t, m, n⟩ := (Eq.refl _).trans rfl
@[simp] theorem look_nil (k : Nat) : look [] k = .c (.d .any) := (Eq.refl _).trans rfl
@[simp] theorem zwp (j k : Nat) (v : AV) (t : List (Nat × AV)) : look ((j, v) :: t) k = if k = j then v else look t k := (Eq.refl _).trans rfl
@[simp] theorem X_t (get : Nat -> AV) (k : Nat) : X get (.t k) = get k := (Eq.refl _).trans rfl
@[simp] theorem X_k (get : Nat -> AV) (x : D) : X get (.k x) = .c (.d x) := (Eq.refl _).trans rfl
@[simp] theorem zxd (m : Hp) : wrs m [] = m := (Eq.refl _).trans rfl
@[simp] theorem zwF (m : Hp) (k : Nat) (v : Blk) (l : List (Nat × Blk)) : wrs m ((k, v) :: l) = wrs (upd m k v) l := (Eq.refl _).trans rfl
@[simp] theorem zrF (m : Hp) (k : Nat) (v : Blk) (j : Nat) : upd m k v j = if j = k then v else m j := (Eq.refl _).trans rfl
@[simp ↓] theorem zvq (K : St -> Prop) (Q : Exit -> St -> Prop) (S : St) : thenQ K Q .normal S = K S := (Eq.refl _).trans rfl
@[simp ↓] theorem zv2 (K : St -> Prop) (Q : Exit -> St -> Prop) (i : Nat) (S : St) : thenQ K Q (.exit i) S = Q (.exit i) S := (Eq.refl _).trans rfl
@[simp ↓] theorem zwq (K : St -> Prop) (Q : Exit -> St -> Prop) (S : St) : thenQ K Q .ret S = Q .ret S := (Eq.refl _).trans rfl
@[simp ↓] theorem zvb (i : Nat) (Q : Exit -> St -> Prop) (S : St) : blockQ i Q .normal S = Q .normal S := (Eq.refl _).trans rfl
@[simp ↓] theorem zv3 (i : Nat) (Q : Exit -> St -> Prop) (S : St) : blockQ i Q .ret S = Q .ret S := (Eq.refl _).trans rfl
@[simp ↓] theorem zvR (i j : Nat) (Q : Exit -> St -> Prop) (S : St) : blockQ i Q (.exit j) S = if j = i then Q .normal S else Q (.exit j) S := (Eq.refl _).trans rfl
@[simp] theorem zwG : (undef : Value) = .tuple #[] := rfl
attribute [simp] argT DV.av DV.avs toDV toDVs allD zbP zec rowD rowC zfj zbJ evI evS evB
attribute [simp] DV.er DV.ers splice
@[simp] theorem zwr (f : Nat -> Nat) : AC.rens f ∘ List.map AC.d = List.map AC.d := by funext x; simp
@[simp] theorem lts_comp (n : Nat) : AC.lts n ∘ List.map AC.d = fun _ => true := by funext x; simp
@[simp] theorem D.er_int (k : IntKind) (n : Int) : (D.int k n).er = .int k n := rfl
@[simp] theorem D.er_bool (b : Bool) : (D.bool b).er = .bool b := rfl
@[simp] theorem D.er_str (b : ByteArray) : (D.str b).er = .str b := rfl
@[simp] theorem D.er_sl (x : Bool) (s : Nat) (es : List (List D)) : (D.sl x s es).er = .sl false s es := rfl
@[simp] theorem D.er_fn (f : Fn) (c : List D) : (D.fn f c).er = .fn f c := rfl
@[simp] theorem D.er_rp (cs : List D) (o : Nat) : (D.rp cs o).er = .rp cs o := rfl
@[simp] theorem D.er_sc (v : Value) : (D.sc v).er = .sc v := rfl
@[simp] theorem AC.one_d (d : D) : (AC.d d).one = d.one := rfl
@[simp] theorem AC.one_ptr (b o : Nat) : (AC.ptr b o).one = true := rfl
@[simp] theorem AC.one_ept (s b i o : Nat) : (AC.ept s b i o).one = true := rfl
@[simp] theorem AC.one_msl (s b o l : Nat) : (AC.msl s b o l).one = true := rfl
@[simp] theorem D.one_int (k : IntKind) (n : Int) : (D.int k n).one = true := rfl
@[simp] theorem D.one_bool (b : Bool) : (D.bool b).one = true := rfl
@[simp] theorem D.one_str (b : ByteArray) : (D.str b).one = true := rfl
@[simp] theorem D.one_sl (x : Bool) (s : Nat) (es : List (List D)) : (D.sl x s es).one = true := rfl
@[simp] theorem D.one_fn (f : Fn) (c : List D) : (D.fn f c).one = true := rfl
@[simp] theorem D.one_rp (cs : List D) (o : Nat) : (D.rp cs o).one = true := rfl
@[simp] theorem zxe {α : Type} (cs : List α) (n : Nat) (h : cs.length = n) : cut cs 0 n = cs := by simp [cut, h]
@[simp] theorem zxf {α : Type} (cs l : List α) (h : l.length = cs.length) : put cs 0 l = l := by simp [put, h]
@[simp] theorem zwH {α : Type} (c : α) (cs : List α) (o : Nat) (l : List α) : put (c :: cs) o l = if o = 0 /\ l.length = (c :: cs).length then l else splice (c :: cs) o l := (Eq.refl _).trans rfl
theorem wrap_i64 {n : Int} (h1 : -9223372036854775808 <= n) (h2 : n <= 9223372036854775807) : IntKind.i64.wrap n = n := zll (by simpa [IntKind.min, IntKind.bits, IntKind.signed] using h1) (by simpa [IntKind.max, IntKind.bits, IntKind.signed] using h2)
theorem zps : IntKind.i64.min = -9223372036854775808 := by simp [IntKind.min, IntKind.bits, IntKind.signed]
theorem zpt : IntKind.i64.max = 9223372036854775807 := by simp [IntKind.max, IntKind.bits, IntKind.signed]
@[simp] theorem zwI (n : Nat) : hpOf [] n = .non := by simp [hpOf]
@[simp] theorem zws (b : Blk) (bs : List Blk) : hpOf (b :: bs) 0 = b := by simp [hpOf]
@[simp] theorem zwt (b : Blk) (bs : List Blk) (n : Nat) : hpOf (b :: bs) (n + 1) = hpOf bs n := by simp [hpOf]
@[simp] theorem zx2 (t : List (Nat × AV)) (bs : List Blk) : hd t bs = ⟨t, hpOf bs, bs.length⟩ := (Eq.refl _).trans rfl
attribute [simp] Match tAll mAll fOf AV.ren AV.lt AC.ren AC.lt AC.rens AC.lts AV.rens AV.lts Blk.ren Blk.lt
attribute [simp] zfi one? frzV zeD frzC zcu zbz
def ldD_ (ag : Bool) (sz : Nat) (cs : List D) (off : Nat) (K : AV -> Prop) (_ : Tag K) : Prop := ldD ag sz cs off K
def ldC_ (ag : Bool) (sz : Nat) (cs : List AC) (off : Nat) (K : AV -> Prop) (_ : Tag K) : Prop := ldC ag sz cs off K
def bnd_ (get : Nat -> AV) (d : Nat) (K : Nat -> Prop) (_ : Tag K) (o : Option MX) : Prop := bnd get d K o
def zmU (get : Nat -> AV) (m : Hp) (s : Nat) (K : List (List AC) -> List Nat -> Prop) (_ : Tag K) (y : MX) : Prop := srcs get m s K y
def zqj (S : St) (K : AV -> Prop) (_ : Tag K) (r : MR) : Prop := resK S K r
def zf6 (S : St) (rs : List MR) (K : List AV -> Prop) (_ : Tag K) : Prop := zfz S rs K
@[simp] theorem zx3 (sz : Nat) (cs : List D) (off : Nat) (K : AV -> Prop) {g} : ldD_ true sz cs off K g = (off + sz <= cs.length /\ K (.ag ((cut cs off sz).map .d))) := (Eq.refl _).trans rfl
@[simp] theorem zx4 (sz : Nat) (cs : List D) (off : Nat) (K : AV -> Prop) {g} : ldD_ false sz cs off K g = (match cs[off]? with | some c => K (.c (.d c)) | none => False) := (Eq.refl _).trans rfl
@[simp] theorem zx5 (sz : Nat) (cs : List AC) (off : Nat) (K : AV -> Prop) {g} : ldC_ true sz cs off K g = (off + sz <= cs.length /\ K (.ag (cut cs off sz))) := (Eq.refl _).trans rfl
@[simp] theorem zx6 (sz : Nat) (cs : List AC) (off : Nat) (K : AV -> Prop) {g} : ldC_ false sz cs off K g = (match cs[off]? with | some c => K (.c c) | none => False) := (Eq.refl _).trans rfl
@[simp] theorem zwJ (get : Nat -> AV) (d : Nat) (K : Nat -> Prop) {g} : bnd_ get d K g none = K d := (Eq.refl _).trans rfl
@[simp] theorem zwK (get : Nat -> AV) (d : Nat) (K : Nat -> Prop) {g} (x : MX) : bnd_ get d K g (some x) = (match X get x with | .c (.d (.int _ j)) => 0 <= j /\ K j.toNat | _ => False) := (Eq.refl _).trans rfl
@[simp] theorem zxg (get : Nat -> AV) (m : Hp) (s : Nat) (K : List (List AC) -> List Nat -> Prop) {g} (y : MX) : zmU get m s K g y = (match X get y with
 | .c (.d (.sl _ s' ys)) => s = s' /\ K (ys.map (·.map .d)) []
 | .c (.msl s' b off len) => match m b with
  | .arr s'' es => s = s' /\ s = s'' /\ off + len <= es.length /\ K ((es.drop off).take len) [b]
  | _ => False
 | _ => False) := (Eq.refl _).trans rfl
@[simp] theorem zwL (rs : List MR) (v : DV) (S : St) : endQ rs v .ret S = zf6 S rs (fun vs => (frzV S.m (one? vs)).map DV.er = some v) ⟨⟩ := (Eq.refl _).trans rfl
@[simp] theorem zwM (S : St) (K : AV -> Prop) {g} (t : Nat) : zqj S K g (.tmp t) = K (S.get t) := (Eq.refl _).trans rfl
@[simp] theorem zwu (S : St) (K : AV -> Prop) {g} (t : Nat) (ag : Bool) (sz : Nat) : zqj S K g (.cell t ag sz) = (match S.get t with
  | .c (.d (.rp cs off)) => ldD_ ag sz cs off K ⟨⟩
  | .c (.ptr b off) => match S.m b with
   | .box cs => ldC_ ag sz cs off K ⟨⟩
   | _ => False
  | _ => False) := (Eq.refl _).trans rfl
@[simp] theorem zwv (S : St) (K : List AV -> Prop) {g} : zf6 S [] K g = K [] := (Eq.refl _).trans rfl
@[simp] theorem zv4 (S : St) (r : MR) (rs : List MR) (K : List AV -> Prop) {g} : zf6 S (r :: rs) K g = zqj S (fun v => zf6 S rs (fun vs => K (v :: vs)) ⟨⟩) ⟨⟩ r := (Eq.refl _).trans rfl
section
variable {P : Program} {get : Nat -> AV} {m : Hp} {n : Nat} {K : AV -> List Nat -> List (Nat × Blk) -> Nat -> Prop}
@[simp] theorem zx7 (x : MX) {g} : eV P K (.mv x) g get m n = K (X get x) [] [] n := (Eq.refl _).trans rfl
@[simp] theorem zxh (c a b : MX) {g} : eV P K (.pick c a b) g get m n = match X get c with
  | .c (.d (.bool t)) => gd t true (K (X get a) [] [] n) (K (X get b) [] [] n)
  | _ => False := (Eq.refl _).trans rfl
@[simp] theorem zxi (op : BinOp) (x : MX) (y : MX) {g} : eV P K (.binI op x y) g get m n = (match X get x, X get y with
  | .c (.d (.int k a)), .c (.d (.int k' b)) => k = k' /\ (match evI op k a b with | some d => K (.c (.d d)) [] [] n | none => False)
  | _, _ => False) := (Eq.refl _).trans rfl
@[simp] theorem zxj (op : BinOp) (x : MX) (y : MX) {g} : eV P K (.binS op x y) g get m n = (match X get x, X get y with
  | .c (.d (.str a)), .c (.d (.str b)) => (match evS op a b with | some d => K (.c (.d d)) [] [] n | none => False)
  | _, _ => False) := (Eq.refl _).trans rfl
@[simp] theorem zxJ (x : MX) (y : MX) {g} : eV P K (.cat x y) g get m n = (match X get x, X get y with
  | .c (.d (.str a)), .c (.d (.str b)) => a.size + b.size <= zak /\ K (.c (.d (.str (a ++ b)))) [] [] n
  | _, _ => False) := (Eq.refl _).trans rfl
@[simp] theorem zxk (op : BinOp) (x : MX) (y : MX) {g} : eV P K (.binB op x y) g get m n = (match X get x, X get y with
  | .c (.d (.bool a)), .c (.d (.bool b)) => (match evB op a b with | some d => K (.c (.d d)) [] [] n | none => False)
  | _, _ => False) := (Eq.refl _).trans rfl
@[simp] theorem zxK (x : MX) {g} : eV P K (.not x) g get m n = (match X get x with
  | .c (.d (.bool a)) => K (.c (.d (.bool (!a)))) [] [] n
  | _ => False) := (Eq.refl _).trans rfl
@[simp] theorem zwN (k : IntKind) (x : MX) {g} : eV P K (.convI k x) g get m n = (match X get x with
  | .c (.d (.int _ a)) => K (.c (.d (.int k (k.wrap a)))) [] [] n
  | _ => False) := (Eq.refl _).trans rfl
@[simp] theorem zxl (x : MX) {g} : eV P K (.boxP x) g get m n = (match zec (X get x) with
  | some ds => K (.c (.d (.rp ds 0))) [] [] n
  | none => False) := (Eq.refl _).trans rfl
@[simp] theorem zxm (x : MX) {g} : eV P K (.boxM x) g get m n = (match zbP (X get x) with
  | some cs => m n = .non /\ K (.c (.ptr n 0)) [] [(n, .box cs)] (n + 1)
  | none => False) := (Eq.refl _).trans rfl
@[simp] theorem zwO (z : List D) {g} : eV P K (.alloc z) g get m n = (m n = .non /\ K (.c (.ptr n 0)) [] [(n, .box (z.map .d))] (n + 1)) := (Eq.refl _).trans rfl
@[simp] theorem zwP (z : List D) (ps : List (Nat × Nat × MX)) {g} : eV P K (.build z ps) g get m n = (match zfi get (z.map .d) ps with
  | some cs => K (.ag cs) [] [] n
  | none => False) := (Eq.refl _).trans rfl
@[simp] theorem zv5 (s : Nat) (xs : List MX) {g} : eV P K (.buildSl s xs) g get m n = (match rowD get s xs with
  | some es => K (.c (.d (.sl true s es))) [] [] n
  | none => False) := (Eq.refl _).trans rfl
@[simp] theorem zvS (s : Nat) (xs : List MX) {g} : eV P K (.buildSlM s xs) g get m n = (match rowC get s xs with
  | some es => m n = .non /\ K (.c (.msl s n 0 xs.length)) [] [(n, .arr s es)] (n + 1)
  | none => False) := (Eq.refl _).trans rfl
@[simp] theorem zxn (ag : Bool) (sz : Nat) (x : MX) {g} : eV P K (.load ag sz x) g get m n = (match X get x with
  | .c (.d (.rp cs off)) => ldD_ ag sz cs off (fun v => K v [] [] n) ⟨⟩
  | .c (.ptr b off) => match m b with
   | .box cs => ldC_ ag sz cs off (fun v => K v [b] [] n) ⟨⟩
   | _ => False
  | .c (.ept s b i off) => match m b with
   | .arr s' es => s = s' /\ (match es[i]? with | some e => ldC_ ag sz e off (fun v => K v [b] [] n) ⟨⟩ | none => False)
   | _ => False
  | _ => False) := (Eq.refl _).trans rfl
@[simp] theorem zwQ (sz : Nat) (a : MX) (v : MX) {g} : eV P K (.store sz a v) g get m n = (match X get a, zbP (X get v) with
  | .c (.ptr b off), some l => match m b with
   | .box cs => l.length = sz /\ off + sz <= cs.length /\ K (.c (.d .any)) [] [(b, .box (put cs off l))] n
   | _ => False
  | .c (.ept s b i off), some l => match m b with
   | .arr s' es => s = s' /\ l.length = sz /\ off + sz <= s /\ (match es[i]? with | some e => K (.c (.d .any)) [] [(b, .arr s (es.set i (put e off l)))] n | none => False)
   | _ => False
  | _, _ => False) := (Eq.refl _).trans rfl
@[simp] theorem zwR (off : Nat) (x : MX) {g} : eV P K (.faddr off x) g get m n = (match X get x with
  | .c (.ptr b o) => K (.c (.ptr b (o + off))) [] [] n
  | .c (.ept s b i o) => K (.c (.ept s b i (o + off))) [] [] n
  | .c (.d (.rp cs o)) => K (.c (.d (.rp cs (o + off)))) [] [] n
  | _ => False) := (Eq.refl _).trans rfl
@[simp] theorem zww (s : Nat) (x : MX) (i : MX) {g} : eV P K (.iaddrS s x i) g get m n = (match X get x, X get i with
  | .c (.d (.sl _ s' es)), .c (.d (.int _ j)) => s = s' /\ 0 <= j /\ (match es[j.toNat]? with | some e => K (.c (.d (.rp e 0))) [] [] n | none => False)
  | .c (.msl s' b off len), .c (.d (.int _ j)) => s = s' /\ 0 <= j /\ j < len /\ K (.c (.ept s b (off + j.toNat) 0)) [] [] n
  | _, _ => False) := (Eq.refl _).trans rfl
@[simp] theorem zxo (x : MX) (i : MX) {g} : eV P K (.idxS x i) g get m n = (match X get x, X get i with
  | .c (.d (.str t)), .c (.d (.int _ j)) => 0 <= j /\ (match t.data.toList[j.toNat]? with | some b => K (.c (.d (.int .u8 b.toNat))) [] [] n | none => False)
  | _, _ => False) := (Eq.refl _).trans rfl
@[simp] theorem zxL (x : MX) {g} : eV P K (.len x) g get m n = (match X get x with
  | .c (.d (.sl _ _ es)) => K (.c (.d (.int .i64 es.length))) [] [] n
  | .c (.msl _ b off l) => match m b with
   | .arr _ es => off + l <= es.length /\ K (.c (.d (.int .i64 l))) [b] [] n
   | _ => False
  | _ => False) := (Eq.refl _).trans rfl
@[simp] theorem zxp (x : MX) {g} : eV P K (.lenS x) g get m n = (match X get x with
  | .c (.d (.str t)) => K (.c (.d (.int .i64 t.size))) [] [] n
  | _ => False) := (Eq.refl _).trans rfl
@[simp] theorem zwS (x : MX) {g} : eV P K (.nilck x) g get m n = (match X get x with
  | .c (.ptr b o) => K (.c (.ptr b o)) [] [] n
  | .c (.ept s b i o) => K (.c (.ept s b i o)) [] [] n
  | .c (.d (.rp cs o)) => K (.c (.d (.rp cs o))) [] [] n
  | _ => False) := (Eq.refl _).trans rfl
@[simp] theorem zv6 (x : MX) (i : Nat) {g} : eV P K (.extract x i) g get m n = (match X get x with
  | .tup vs => match vs[i]? with
   | some v => K v [] [] n
   | none => False
  | _ => False) := (Eq.refl _).trans rfl
@[simp] theorem zwT (s : Nat) (x : MX) (lo : Option MX) (hi : Option MX) {g} : eV P K (.slice s x lo hi) g get m n = (match X get x with
  | .c (.d (.sl e s' es)) => s = s' /\ bnd_ get es.length (fun h => bnd_ get 0 (fun l => l <= h /\ h <= es.length /\ K (.c (.d (.sl (e && hi.isNone) s ((es.take h).drop l)))) [] [] n) ⟨⟩ lo) ⟨⟩ hi
  | .c (.msl s' b off len) => s = s' /\ bnd_ get len (fun h => bnd_ get 0 (fun l => l <= h /\ h <= len /\ K (.c (.msl s b (off + l) (h - l))) [] [] n) ⟨⟩ lo) ⟨⟩ hi
  | _ => False) := (Eq.refl _).trans rfl
@[simp] theorem zwx (x : MX) (lo : Option MX) (hi : Option MX) {g} : eV P K (.sliceS x lo hi) g get m n = (match X get x with
  | .c (.d (.str t)) => bnd_ get t.size (fun h => bnd_ get 0 (fun l => l <= h /\ h <= t.size /\ K (.c (.d (.str (t.extract l h)))) [] [] n) ⟨⟩ lo) ⟨⟩ hi
  | _ => False) := (Eq.refl _).trans rfl
@[simp] theorem zwy (s : Nat) (bytes : Nat) (x : MX) (y : MX) {g} : eV P K (.append s bytes x y) g get m n = (match X get x with
  | .c (.msl s' b off len) => match m b with
   | .arr s'' es => s = s' /\ s = s'' /\ off = 0 /\ len <= es.length /\ m n = .non /\ zmU get m s (fun ys rd => (len + ys.length) * bytes <= 70368744177664 /\ (rd = [] \/ rd = [b] \/ b ∉ rd) /\
     K (.c (.msl s n 0 (len + ys.length))) rd [(b, .dead), (n, .arr s (es.take len ++ ys))] (n + 1)) ⟨⟩ y
   | _ => False
  | .c (.d (.sl true s' [])) => m n = .non /\ zmU get m s (fun ys rd => ys.length * bytes <= 70368744177664 /\ K (.c (.msl s n 0 ys.length)) rd [(n, .arr s ys)] (n + 1)) ⟨⟩ y
  | .c (.d (.sl true s' (e :: es))) => s = s' /\ m n = .non /\ zmU get m s (fun ys rd => (ys = [] -> K (.c (.d (.sl true s (e :: es)))) rd [] (n + 1)) /\ (ys ≠ [] -> ((e :: es).length + ys.length) * bytes <= 70368744177664 /\ K (.c (.msl s n 0 ((e :: es).length + ys.length))) rd [(n, .arr s ((e :: es).map (·.map .d) ++ ys))] (n + 1))) ⟨⟩ y
  | _ => False) := (Eq.refl _).trans rfl
@[simp] theorem zxq (f : FuncId) (caps : List MX) {g} : eV P K (.mkfn f caps) g get m n = (match zfj get caps with
  | some cs => match allD cs with
   | some ds => K (.c (.d (.fn (.func f) ds))) [] [] n
   | none => K (.c (.fn (.func f) cs)) [] [] n
  | none => False) := (Eq.refl _).trans rfl
@[simp] theorem zxr (f : FuncId) (xs : List MX) {g} : eV P K (.call f xs) g get m n = (match toDVs (xs.map (X get)) with
  | some ds => zac P f ds (fun v => K v.av [] [] n) ⟨⟩
  | none => False) := (Eq.refl _).trans rfl
@[simp] theorem zwU (ne : Bool) (x : MX) {g} : eV P K (.isNil ne x) g get m n = (match X get x with
  | .c (.d (.sl _ _ (_ :: _))) => K (.c (.d (.bool ne))) [] [] n
  | .c (.d (.sl _ _ [])) => K (.c (.op zeJ)) [] [] n
  | _ => False) := (Eq.refl _).trans rfl
@[simp] theorem zwV  {g} : eV P K (.mkmap) g get m n = (m n = .non /\ K (.c (.map n)) [] [(n, .map [])] (n + 1)) := (Eq.refl _).trans rfl
@[simp] theorem zwW (kk : Nat) (ok ag : Bool) (z : List D) (x k : MX) {g} : eV P K (.mlook kk ok ag z x k) g get m n = (match X get x, X get k with
  | .c (.map b), .c (.d d) => match m b with
   | .map es => match mfind kk d es 0 with
    | some (some (_, v)) => K (if ok then .tup [v, .c (.d (.bool true))] else v) [b] [] n
    | some none => K (if ok then .tup [aval ag z, .c (.d (.bool false))] else aval ag z) [b] [] n
    | none => False
   | _ => False
  | _, _ => False) := (Eq.refl _).trans rfl
@[simp] theorem zxs (kk : Nat) (x k v : MX) {g} : eV P K (.mset kk x k v) g get m n = (match X get x, X get k with
  | .c (.map b), .c (.d d) => match m b with
   | .map es => match mfind kk d es 0 with
    | some (some (i, _)) => K (.c (.d .any)) [] [(b, .map (es.set i (d, X get v)))] n
    | some none => K (.c (.d .any)) [] [(b, .map (es ++ [(d, X get v)]))] n
    | none => False
   | _ => False
  | _, _ => False) := (Eq.refl _).trans rfl
@[simp] theorem zwX (z : List D) (bytes : Nat) (x y : MX) {g} : eV P K (.mkslM z bytes x y) g get m n = (match X get x, X get y with
  | .c (.d (.int .i64 j)), .c (.d (.int .i64 l)) => 0 <= j /\ j <= l /\ l * bytes <= 70368744177664 /\ m n = .non /\ K (.c (.msl z.length n 0 j.toNat)) [] [(n, .arr z.length ((List.replicate j.toNat z).map (·.map .d)))] (n + 1)
  | _, _ => False) := (Eq.refl _).trans rfl
end
attribute [simp] mfind kEq aval eqL
end Go.Abs
set_option linter.unusedSimpArgs false
namespace Go.Abs
mutual
def zaT (P : Program) : Nat -> TypeId -> List D -> Prop
 | 0, _, _ => False
 | n + 1, t, ds => match P.underlying t with
  | some .bool => ∃ b, ds = [.bool b]
  | some (.int k) => ∃ i, ds = [.int k i]
  | some .string => ∃ s, ds = [.str s]
  | some (.slice e) => ∃ es, ds = [.sl false (P.cellsOf e) es] /\ ∀ x, x ∈ es -> zaT P n e x
  | some (.struct fs) => zcg P n (fs.toList.map (·.type)) ds
  | _ => False
def zcg (P : Program) : Nat -> List TypeId -> List D -> Prop
 | _, [], ds => ds = []
 | n, t :: ts, ds => ∃ a b, ds = a ++ b /\ zaT P n t a /\ zcg P n ts b
end
def layF (P : Program) (tot : Nat) : Nat -> List Field -> Bool
 | o, [] => o == tot
 | o, f :: r => f.offset == o && layF P tot (o + P.cellsOf f.type) r
def zgT (P : Program) (S : List TypeId) (t : TypeId) : Bool := match P.underlying t with
 | some .bool | some (.int _) | some .string => true
 | some (.slice e) => S.contains e && decide (0 < P.cellsOf e) && decide (0 < P.bytesOf e)
 | some (.struct fs) => layF P (P.cellsOf t) 0 fs.toList && fs.toList.all fun f => S.contains f.type
 | _ => false
theorem RepE.of_get {h : PH} {s : Nat} : ∀ {es : List (List D)} {vs : List Value}, (∀ i e, es[i]? = some e -> e.length = s /\ RepL h e (vs.drop (i * s))) -> RepE h s es vs
 | [], vs, _ => by simp [RepE]
 | e :: es, vs, H => by
  simp only [RepE]
  have h0 := H 0 e rfl
  refine ⟨h0.1, by simpa using h0.2, RepE.of_get fun i e' he => ?_⟩
  have := H (i + 1) e' (by simpa using he)
  rw [List.drop_drop, show s + i * s = (i + 1) * s by rw [Nat.add_mul]; omega]
  exact this
section
variable {H : Type} {enc : TypeId × Value -> H} {P : Program} {w : World} {held : Bool}
theorem mapM_cells {B : Nat} {c : Array Value} {ty : TypeId} {fr : Nat × Nat} (hB : w.heap[B]? = some (.cells c ty fr)) : ∀ (n k o : Nat) (cs : List Value), ((List.range' k n).mapM fun i => w.cell? ⟨B, o + i, none⟩) = some cs -> cs = (c.toList.drop (o + k)).take n /\ cs.length = n
 | 0, k, o, cs, h => by simp at h; subst h; simp
 | n + 1, k, o, cs, h => by
  rw [List.range'_succ, List.mapM_cons] at h
  have hc : w.cell? ⟨B, o + k, none⟩ = c[o + k]? := by simp [World.cell?, hB]
  rw [hc] at h
  cases e : c[o + k]? with
  | none => simp [e] at h
  | some v =>
   simp only [e, Option.pure_def, Option.bind_eq_bind, Option.bind_some, Option.bind_eq_some_iff] at h
   obtain ⟨r, hr, hcs⟩ := h
   cases hcs
   obtain ⟨h1, h2⟩ := mapM_cells hB n (k + 1) o r hr
   have hk : o + k < c.toList.length := by
    rcases Nat.lt_or_ge (o + k) c.size with h | h
    ·simpa using h
    ·rw [Array.getElem?_eq_none h] at e; cases e
   rw [List.drop_eq_getElem_cons hk]
   refine ⟨?_, by simp [h2]⟩
   rw [List.take_succ_cons, h1, show o + (k + 1) = o + k + 1 by omega]
   congr 1
   have := Array.getElem?_eq_getElem (xs := c) (i := o + k) (by simpa using hk)
   rw [this] at e
   simp at e
   simp [e]
theorem zjO {base : Nat} {a : Addr} {s : Nat} {cs : List Value} (hs : 0 < s) (h : w.cells? base a s = some cs) : a.spot = none /\ cs = ((hcells (fun B => w.heap[B]?) a.block).drop a.off).take s /\ cs.length = s := by
 unfold World.cells? at h
 split at h
 ·obtain ⟨B, o, sp⟩ := a
  have hsp : sp = none := by
   cases sp with
   | none => rfl
   | some z =>
    exfalso
    cases s with
    | zero => cases hs
    | succ s =>
     rw [List.range_eq_range', List.range'_succ, List.mapM_cons] at h
     have : w.cell? (Addr.add ⟨B, o, some z⟩ 0) = none := by
      unfold World.cell? Addr.add
      simp
      cases w.heap[B]? with
      | none => rfl
      | some ob => cases ob <;> rfl
     rw [this] at h
     simp at h
  subst hsp
  refine ⟨rfl, ?_⟩
  simp only [zbQ] at h
  simp only [hcells]
  cases e : w.heap[B]? with
  | none =>
   exfalso
   cases s with
   | zero => cases hs
   | succ s =>
    rw [List.range_eq_range', List.range'_succ, List.mapM_cons] at h
    simp [World.cell?, e] at h
  | some ob =>
   cases ob with
   | cells c ty fr =>
    rw [List.range_eq_range'] at h
    have := mapM_cells e s 0 o cs h
    rw [Nat.add_zero] at this
    exact this
   | _ =>
    exfalso
    cases s with
    | zero => cases hs
    | succ s =>
     rw [List.range_eq_range', List.range'_succ, List.mapM_cons] at h
     simp [World.cell?, e] at h
 ·cases h
theorem RepL.of_take {h : PH} {ds : List D} {vs : List Value} {n : Nat} (r : RepL h ds (vs.take n)) : RepL h ds vs := by
 have := RepL.mono (PH.le_refl h) ds _ (vs.drop n) r
 simpa using this
theorem zgj {e : TypeId} : ∀ {l : List (DataW H)} {d : DataW H}, d ∈ l -> ∀ n, n ∈ d.weights P e -> n ∈ DataW.weightsAll P e l
 | x :: l, d, h, n, hn => by
  simp only [DataW.weightsAll, List.mem_append]
  cases List.mem_cons.1 h with
  | inl h => subst h; exact Or.inl hn
  | inr h => exact Or.inr (zgj h n hn)
theorem zmw : reachBytes <= zak := by decide
theorem zqQ {S : List TypeId} (hS : ∀ t, t ∈ S -> zgT P S t = true) : ∀ (fuel : Nat) (t : TypeId) (cs : List Value) (d : DataW H) (ps : List MemPlace), t ∈ S ->
  DataW.trod enc P w 0 (fun _ => true) true fuel t cs = some (d, ps) -> (∀ n, n ∈ d.weights P t -> n <= reachBytes) ->
  ∃ ds, zaT P fuel t ds /\ RepL (fun B => w.heap[B]?) ds cs /\ ds.length = cs.length := by
 intro fuel
 induction fuel with
 | zero => intro t cs d ps _ h; simp [DataW.trod] at h
 | succ fuel ih =>
 intro t cs d ps ht h hw
 have hg := hS t ht
 unfold zgT at hg
 split at hg
 ·rename_i hu
  obtain ⟨b, rfl, _⟩ := DataW.trod_bool hu h
  exact ⟨[.bool b], by unfold zaT; rw [hu]; exact ⟨b, rfl⟩, by simp [RepL, RepD, Value.one1], rfl⟩
 ·rename_i k hu
  obtain ⟨n, rfl, _, hwf⟩ := DataW.trod_int hu h
  refine ⟨[.int k n], by unfold zaT; rw [hu]; exact ⟨n, rfl⟩, ?_, rfl⟩
  simp only [Lit.wf, Bool.and_eq_true, decide_eq_true_eq] at hwf
  simp [RepL, RepD, Value.one1, hwf]
 ·rename_i hu
  obtain ⟨s, rfl, hx, _⟩ := DataW.trod_string hu h
  refine ⟨[.str s], by unfold zaT; rw [hu]; exact ⟨s, rfl⟩, ?_, rfl⟩
  simp only [Prod.mk.injEq] at hx
  rw [hx.1] at hw
  have h1 := hw s.data.toList.length (by unfold DataW.weights; exact List.mem_singleton.2 rfl)
  have e : s.size = s.data.toList.length := (Array.length_toList ..).symm
  have h2 := zmw
  refine ⟨⟨rfl, ?_⟩, trivial⟩
  unfold RepD
  exact ⟨rfl, e ▸ Nat.le_trans h1 h2⟩
 ·rename_i e hu
  simp only [Bool.and_eq_true, decide_eq_true_eq, List.contains_iff_mem] at hg
  obtain ⟨⟨he, hc⟩, hb⟩ := hg
  rcases DataW.trod_slice hu h with ⟨rfl, _⟩ | ⟨a, len, cap, elems, rest, n, hn, rfl, hx, _, hlc, hcm, hlen, hel, hsp, _⟩
  ·refine ⟨[.sl false (P.cellsOf e) []], by unfold zaT; rw [hu]; exact ⟨[], rfl, by simp⟩, ?_, rfl⟩
   refine ⟨⟨rfl, ?_⟩, trivial⟩
   unfold RepD
   exact ⟨none, 0, rfl, Nat.le_refl _, fun h => (by cases h), Nat.zero_le _, fun _ => ⟨rfl, rfl⟩, fun p hp => (by cases hp), (by simp [RepE])⟩
  ·simp only [Nat.add_right_cancel_iff] at hn
   subst hn
   simp only [Prod.mk.injEq] at hx
   have hw0 : ∀ x, x ∈ elems.map (·.1) -> ∀ m, m ∈ x.weights P e -> m <= reachBytes := fun x hx' m hm => hw m (by
    rw [hx.1]; simp only [DataW.weights, hu]
    exact List.mem_cons_of_mem _ (List.mem_append_left _ (zgj hx' m hm)))
   have hcap : (elems.length + rest.length) * P.bytesOf e <= reachBytes := hw _ (by rw [hx.1]; simp only [DataW.weights, hu]; simp)
   have hcap' : elems.length + rest.length <= reachBytes := Nat.le_trans (Nat.le_mul_of_pos_right _ hb) hcap
   have key : ∀ i, i < len -> ∃ ds, zaT P fuel e ds /\ ds.length = P.cellsOf e /\ a.spot = none /\ RepL (fun B => w.heap[B]?) ds ((hcells (fun B => w.heap[B]?) a.block).drop (a.off + i * P.cellsOf e)) := by
    intro i hi
    have h1 := hel i hi
    have hil : i < elems.length := by omega
    rw [List.getElem?_eq_getElem hil] at h1
    obtain ⟨cs', hcs, htr⟩ := Option.bind_eq_some_iff.1 h1
    obtain ⟨ds, s1, s2, s3⟩ := ih e cs' elems[i].1 elems[i].2 he htr (hw0 _ (List.mem_map_of_mem (List.getElem_mem hil)))
    obtain ⟨g1, g2, g3⟩ := zjO hc hcs
    have g4 : (a.add (i * P.cellsOf e)).block = a.block := by unfold Addr.add; split <;> rfl
    have g5 : (a.add (i * P.cellsOf e)).off = a.off + i * P.cellsOf e := by unfold Addr.add; split <;> simp_all
    rw [g4, g5] at g2
    refine ⟨ds, s1, by omega, ?_, RepL.of_take (g2 ▸ s2)⟩
    -- the first element's reading says that the place is plain
    have h0 := hel 0 (by omega)
    rw [List.getElem?_eq_getElem (show 0 < elems.length by omega)] at h0
    obtain ⟨cs0, hcs0, _⟩ := Option.bind_eq_some_iff.1 h0
    have := (zjO hc hcs0).1
    simpa [Addr.add] using this
   have hspot : 0 < cap -> a.spot = none := by
    intro hcap
    rcases Nat.lt_or_ge 0 len with hl | hl
    ·obtain ⟨_, _, _, h3, _⟩ := key 0 hl; exact h3
    ·have hl0 : len = 0 := by omega
     have := (hsp rfl).2 0 (by omega)
     rw [List.getElem?_eq_getElem (show 0 < rest.length by have := (hsp rfl).1; omega)] at this
     obtain ⟨cs0, hcs0, _⟩ := Option.bind_eq_some_iff.1 this
     have := (zjO hc hcs0).1
     simpa [Addr.add, hl0] using this
   have pick : ∃ es : List (List D), es.length = len /\ ∀ i x, es[i]? = some x -> zaT P fuel e x /\ x.length = P.cellsOf e /\ RepL (fun B => w.heap[B]?) x ((hcells (fun B => w.heap[B]?) a.block).drop (a.off + i * P.cellsOf e)) := by
    have : ∀ m, m <= len -> ∃ es : List (List D), es.length = m /\ ∀ i x, es[i]? = some x -> zaT P fuel e x /\ x.length = P.cellsOf e /\ RepL (fun B => w.heap[B]?) x ((hcells (fun B => w.heap[B]?) a.block).drop (a.off + i * P.cellsOf e)) := by
     intro m
     induction m with
     | zero => intro _; exact ⟨[], rfl, by simp⟩
     | succ m ihm =>
      intro hm
      obtain ⟨es, hes, hall⟩ := ihm (by omega)
      obtain ⟨ds, d1, d2, d3, d4⟩ := key m (by omega)
      refine ⟨es ++ [ds], by simp [hes], fun i x hx => ?_⟩
      rw [List.getElem?_append] at hx
      split at hx
      ·exact hall i x hx
      ·have : i = m := by
        rcases Nat.lt_or_ge (i - es.length) 1 with h | h
        ·omega
        ·rw [List.getElem?_eq_none (by simpa using h)] at hx; cases hx
       subst this
       simp [hes] at hx
       subst hx
       exact ⟨d1, d2, d4⟩
    exact this len (Nat.le_refl _)
   obtain ⟨es, hes, hall⟩ := pick
   refine ⟨[.sl false (P.cellsOf e) es], ?_, ?_, rfl⟩
   ·unfold zaT; rw [hu]
    refine ⟨es, rfl, fun x hx => ?_⟩
    obtain ⟨i, hi, rfl⟩ := List.getElem_of_mem hx
    exact (hall i _ (List.getElem?_eq_getElem hi)).1
   ·have := zmw
    simp only [RepL, RepD, Value.one1, and_true, true_and]
    refine ⟨some a, cap, by rw [hes], by omega, by simp, by omega, by simp, fun p hp hcap => by cases hp; exact hspot hcap, ?_⟩
    refine RepE.of_get fun i x hx => ?_
    obtain ⟨_, h2, h3⟩ := hall i x hx
    refine ⟨h2, ?_⟩
    simp only [cellsAt]
    rw [List.drop_drop]
    exact h3
 ·rename_i fs hu
  simp only [Bool.and_eq_true, List.all_eq_true, List.contains_iff_mem] at hg
  obtain ⟨hlay, hmem⟩ := hg
  obtain ⟨xs, n, hn, hx, hl, hxl, hf⟩ := DataW.trod_struct hu h
  simp only [Nat.add_right_cancel_iff] at hn
  subst hn
  simp only [Prod.mk.injEq] at hx
  have hw1 : ∀ (i : Nat) (f : Field) y, fs[i]? = some f -> xs[i]? = some y -> ∀ m, m ∈ y.1.weights P f.type -> m <= reachBytes := fun i f y hfi hyi m hm => hw m (by
   rw [hx.1]; simp only [DataW.weights, hu]
   exact DataW.weights_mem_each (j := i) (t := f.type) (d := y.1) (by simp [hfi]) (by simp [hyi]) m hm)
  have key : ∀ (l : List Field) (k o : Nat), fs.toList.drop k = l -> layF P (P.cellsOf t) o l = true -> o <= cs.length -> ∃ ds, zcg P fuel (l.map (·.type)) ds /\ RepL (fun B => w.heap[B]?) ds (cs.drop o) /\ ds.length = cs.length - o := by
   intro l
   induction l with
   | nil =>
    intro k o _ hlay ho
    simp only [layF, beq_iff_eq] at hlay
    exact ⟨[], by simp [zcg], by simp [RepL], by simp; omega⟩
   | cons f l ihl =>
    intro k o hk hlay ho
    simp only [layF, Bool.and_eq_true, beq_iff_eq] at hlay
    have hkf : fs[k]? = some f := by
     have : (fs.toList.drop k)[0]? = some f := by rw [hk]; rfl
     simpa using this
    have hfk := hf k f hkf
    have hks : k < xs.length := by
     rw [hxl]
     rcases Nat.lt_or_ge k fs.size with h | h
     ·exact h
     ·rw [Array.getElem?_eq_none h] at hkf; cases hkf
    rw [List.getElem?_eq_getElem hks, hlay.1] at hfk
    have hfm : f ∈ fs.toList := List.mem_of_mem_drop (i := k) (by rw [hk]; simp)
    obtain ⟨a, s1, s2, s3⟩ := ih f.type _ xs[k].1 xs[k].2 (hmem f hfm) hfk (hw1 k f xs[k] hkf (List.getElem?_eq_getElem hks))
    have hle : ∀ (l : List Field) (o : Nat), layF P (P.cellsOf t) o l = true -> o <= P.cellsOf t := by
     intro l
     induction l with
     | nil => intro o h; simp [layF] at h; omega
     | cons f l ih => intro o h; simp [layF] at h; have := ih _ h.2; omega
    have ho2 := hle _ _ hlay.2
    obtain ⟨b, t1, t2, t3⟩ := ihl (k + 1) (o + P.cellsOf f.type) (by rw [<- List.drop_drop, hk]; rfl) hlay.2 (by omega)
    have hal : a.length = P.cellsOf f.type := by rw [s3]; simp; omega
    refine ⟨a ++ b, (by simp only [List.map_cons, zcg]; exact ⟨a, b, rfl, s1, t1⟩), ?_, by simp [hal, t3]; omega⟩
    have e : cs.drop o = (cs.drop o).take (P.cellsOf f.type) ++ cs.drop (o + P.cellsOf f.type) := by
     rw [<- List.drop_drop, List.take_append_drop]
    rw [e]
    exact RepL.append s2 (by rw [s3]) t2
  obtain ⟨ds, d1, d2, d3⟩ := key fs.toList 0 0 rfl hlay (by omega)
  exact ⟨ds, by unfold zaT; rw [hu]; exact d1, by simpa using d2, by simpa using d3⟩
 ·cases hg
def isAgg (P : Program) (t : TypeId) : Bool := match P.underlying t with
 | some (.struct _) => true
 | _ => false
def dvOf (ag : Bool) (ds : List D) : DV := match ag with
 | true => .agg ds
 | false => .one (ds.headD .any)
def zh3 (P : Program) : List TypeId -> List DV -> Prop
 | [], vs => vs = []
 | _ :: _, [] => False
 | t :: ts, v :: vs => (∃ n ds, zaT P n t ds /\ v = dvOf (isAgg P t) ds) /\ zh3 P ts vs
theorem zuW {S : List TypeId} (hS : ∀ t, t ∈ S -> zgT P S t = true) {base : Nat} {t : TypeId} {v : Value} {d : DataW H} {ps : List MemPlace} (ht : t ∈ S) (hval : Value.okWide P w .any base t v)
  (h : DataW.Trod enc P w 0 (fun _ => true) true t v d ps) (hw : ∀ n, n ∈ d.weights P t -> n <= reachBytes) :
  ∃ n ds, zaT P n t ds /\ zaH (fun B => w.heap[B]?) (dvOf (isAgg P t) ds) v := by
 obtain ⟨fuel, h⟩ := h
 obtain ⟨ds, h1, h2, h3⟩ := zqQ hS fuel t _ d ps ht h hw
 refine ⟨fuel, ds, h1, ?_⟩
 unfold isAgg
 unfold Value.okWide at hval
 have hg := hS t ht
 unfold zgT at hg
 have one : ∀ u : Value, u = v -> u.cells.toList = [u] -> zaH (fun B => w.heap[B]?) (dvOf false ds) v := by
  intro u hu hc
  subst hu
  rw [hc] at h2 h3
  match ds, h3 with
  | [x], _ => simp only [dvOf, List.headD_cons, zaH]; simp only [RepL] at h2; exact h2.1.2
 have cell : ∀ {td : TypeDesc}, P.underlying t = some td -> Cell.okWide P w .any base t v -> (∀ fs, td ≠ .struct fs) -> (∀ n e, td ≠ .array n e) -> v.cells.toList = [v] := by
  intro td hu hc h1 h2
  unfold Cell.okWide Cell.ok at hc
  rw [hu] at hc
  cases v <;> first | rfl | (exfalso; revert hc; cases td <;> simp)
 split at hg
 ·rename_i hu
  rw [hu] at hval ⊢
  exact one v rfl (cell hu hval (by simp) (by simp))
 ·rename_i hu
  rw [hu] at hval ⊢
  exact one v rfl (cell hu hval (by simp) (by simp))
 ·rename_i hu
  rw [hu] at hval ⊢
  exact one v rfl (cell hu hval (by simp) (by simp))
 ·rename_i hu
  rw [hu] at hval ⊢
  exact one v rfl (cell hu hval (by simp) (by simp))
 ·rename_i hu
  rw [hu] at hval ⊢
  simp only at hval ⊢
  obtain ⟨cs, rfl, _, _⟩ := hval
  simp only [dvOf, zaH]
  refine ⟨cs.toList, by simp, ?_, h2⟩
  rw [h3]; rfl
 ·cases hg
theorem zod {S : List TypeId} (hS : ∀ t, t ∈ S -> zgT P S t = true) {base : Nat} : ∀ {ts : List TypeId} {vs : List Value} {ds : List (DataW H)} {ps : List MemPlace}, (∀ t, t ∈ ts -> t ∈ S) ->
  (∀ (j : Nat) t v, ts[j]? = some t -> vs[j]? = some v -> Value.okWide P w .any base t v) -> DataW.TrodAll enc P w 0 (fun _ => true) true ts vs ds ps -> (∀ n, n ∈ DataW.weightsEach P ts ds -> n <= reachBytes) ->
  ∃ dvs, zh3 P ts dvs /\ zav (fun B => w.heap[B]?) dvs vs
 | [], [], [], _, _, _, _, _ => ⟨[], rfl, by simp [zav]⟩
 | t :: ts, v :: vs, d :: ds, ps, ht, hval, h, hw => by
  obtain ⟨p, q, h1, h2, _⟩ := h
  obtain ⟨n, e, a1, a2⟩ := zuW hS (ht t (by simp)) (hval 0 t v rfl rfl) h1 (fun n hn => hw n (by simp [DataW.weightsEach, hn]))
  obtain ⟨dvs, b1, b2⟩ := zod hS (fun u hu => ht u (by simp [hu])) (fun j u x hu hx => hval (j + 1) u x (by simpa using hu) (by simpa using hx)) h2 (fun n hn => hw n (by simp [DataW.weightsEach, hn]))
  exact ⟨dvOf (isAgg P t) e :: dvs, ⟨⟨n, e, a1, rfl⟩, b1⟩, by simp only [zav]; exact ⟨a2, b2⟩⟩
theorem zhk (hl : laidOutB P = true) {W W' : World} (hb : Go.RowKit.Below W.heap.size W W') : ∀ {ts : List TypeId} {vs : List Value} {ds : List (DataW H)} {ps : List MemPlace}, (∀ t, t ∈ ts -> P.readableRec t = true /\ t < P.types.size) ->
  DataW.TrodAll enc P W 0 (fun _ => true) true ts vs ds ps -> (∀ x, x ∈ ps -> x.block < W.heap.size) -> DataW.TrodAll enc P W' 0 (fun b => decide (b < W.heap.size)) true ts vs ds ps
 | [], [], [], _, _, h, _ => h
 | t :: ts, v :: vs, d :: ds, ps, hr, h, hlt => by
  obtain ⟨p, q, h1, h2, rfl⟩ := h
  have hrt := hr t (by simp)
  exact ⟨p, q, Go.RowKit.Below.trod hl hrt.1 hrt.2 h1 hb (fun x hx => hlt x (by simp [hx])), zhk hl hb (fun u hu => hr u (by simp [hu])) h2 (fun x hx => hlt x (by simp [hx])), rfl⟩
end
theorem law_lifted {C : Checked} {os : Os} {f : FuncId} {fn : Func} {s : ChangeSpec} {conds : List PathCond} {S : List TypeId} {rt : TypeId} {H : Type} {enc : TypeId × Value -> H}
  (hG : C.prog.globalNamed "strings.asciiSpace" = none) (own : ownKnob C.prog.godebug = none) (started : os.Started) (noInit : C.prog.inits.idxOf? f = none) (hfn : C.prog.funcs[f]? = some fn) (hvars : s.vars = [])
  (hS : (S.all fun t => zgT C.prog S t && C.prog.readableRec t && decide (t < C.prog.types.size)) = true) (hp : (fn.params.toList.all fun t => S.contains t) = true)
  (hres : fn.resultTypes = #[rt]) (hrt : C.prog.underlying rt = some .bool) (hl : laidOutB C.prog = true)
  (hspec : ∀ (ds : List (DataW H)), ds.length = fn.params.size -> s.fn H ds = { results := [.lit (.bool true)], args := ds })
  (witness : ∃ (w : World) (tape : Tape) (i : Input), w.os = os /\ (w.forCall tape i).Shaped C.prog /\ i.vars = [] /\ Input.okWide C.prog (w.forCall tape i) .any w.heap.size f i /\
   s.pre6 enc C.prog fn conds false (w.forCall tape i).memory i.args /\ ({} : Assume).holds C.prog (lone (Frame.enter C.prog f i.args .normal) [] (w.forCall tape i)))
  (hc : ∀ dvs, zh3 C.prog fn.params.toList dvs -> PCall C.prog f dvs (.one (.bool true))) :
  ReturnsInHanded {} C os f .any (s.pre6 enc C.prog fn conds false) (s.post enc C.prog fn false true false false) := by
 refine returnsInHanded_of_change_sized own started noInit hfn witness ?_
 intro W base args ds gs before hval hW _ hwt _
 simp only [List.all_eq_true, Bool.and_eq_true, decide_eq_true_eq, List.contains_iff_mem] at hS hp
 have hW' := hW
 obtain ⟨p, q, hA, hV, hpq, hfz, hnd⟩ := hW
 rw [hvars] at hV
 have hgs : gs = [] /\ q = [] := by
  cases gs with
  | nil => exact ⟨rfl, hV⟩
  | cons g gs => exact hV.elim
 obtain ⟨rfl, rfl⟩ := hgs
 simp only [List.append_nil] at hpq
 subst hpq
 have hpv : s.plain.varTypes C.prog = [] := by unfold ChangeSpec.plain DataSpec.varTypes; rw [hvars]; rfl
 simp only [hpv, List.append_nil, List.all_eq_true, decide_eq_true_eq] at hwt
 have hlen : ∀ {ts : List TypeId} {vs : List Value} {ds : List (DataW H)} {ps : List MemPlace}, DataW.TrodAll enc C.prog W 0 (fun _ => true) true ts vs ds ps -> ds.length = ts.length := by
  intro ts
  induction ts with
  | nil => intro vs ds ps h; cases vs <;> cases ds <;> first | rfl | exact h.elim
  | cons t ts ih =>
   intro vs ds ps h
   cases vs <;> cases ds <;> first | exact h.elim | skip
   obtain ⟨_, _, _, h2, _⟩ := h
   simp [ih h2]
 obtain ⟨dvs, d1, d2⟩ := zod (fun t ht => (hS t ht).1.1) hp (fun j t v ht hv => hval j t v (by simpa using ht) (by simpa using hv)) hA hwt
 have hcall := (hc dvs d1).2 (fun B => W.heap[B]?) W args.toList (fun B o h => h) (fun g e => by rw [hG] at e; cases e) d2
 refine (show Calls C.prog f args.toList.toArray W _ from hcall).mono fun e W' he => ?_
 obtain ⟨vC, h', rfl, _, _, _, hsz, hold, ⟨so, st, sp⟩, rv⟩ := he
 simp only [zaH, RepD] at rv
 subst rv
 have hb : Go.RowKit.Below W.heap.size W W' := ⟨so, st, sp, hsz, hold⟩
 have hsp := hspec ds (by simpa using hlen hA)
 refine ⟨_, rfl, ds, [], before, [], before, [], hW', ?_, ?_, ?_, hb.frame _, fun h => by cases h⟩
 ·rw [List.append_nil, hsp, hres]
  refine ⟨[], [], ⟨1, ?_⟩, rfl, rfl⟩
  unfold DataW.trod
  rw [hrt]
  rfl
 ·rw [List.append_nil, hsp]
  exact zhk hl hb (fun t ht => ⟨(hS t (hp t ht)).1.2, (hS t (hp t ht)).2⟩) hA (fun x hx => hW'.lt x hx)
 ·rw [List.append_nil, hsp, hvars]
  rfl
section
variable {P : Program} {n : Nat} {t : TypeId} {ds : List D}
theorem zmx (hu : P.underlying t = some .string) (h : zaT P n t ds) : ∃ i, ds = [.str i] := by
 cases n with
 | zero => exact (by unfold zaT at h; exact h : False).elim
 | succ n => unfold zaT at h; rw [hu] at h; exact h
theorem zoe {fs : Array Field} (hu : P.underlying t = some (.struct fs)) (h : zaT P n t ds) : ∃ m, n = m + 1 /\ zcg P m (fs.toList.map (·.type)) ds := by
 cases n with
 | zero => exact (by unfold zaT at h; exact h : False).elim
 | succ n => unfold zaT at h; rw [hu] at h; exact ⟨n, rfl, h⟩
theorem zsp (h : zcg P n [] ds) : ds = [] := by unfold zcg at h; exact h
theorem zkR {ts : List TypeId} (h : zcg P n (t :: ts) ds) : ∃ a b, ds = a ++ b /\ zaT P n t a /\ zcg P n ts b := by unfold zcg at h; exact h
theorem ztS {α : Type} {enc : α -> List D} {es : List (List D)} (h : ∀ x, x ∈ es -> ∃ a, x = enc a) : ∃ l : List α, es = l.map enc := by
 induction es with
 | nil => exact ⟨[], rfl⟩
 | cons e es ih =>
  obtain ⟨a, ha⟩ := h e (by simp)
  obtain ⟨l, hl⟩ := ih (fun x hx => h x (by simp [hx]))
  exact ⟨a :: l, by simp [ha, hl]⟩
theorem zo9 {e : TypeId} {s : Nat} {α : Type} {enc : α -> List D} (hu : P.underlying t = some (.slice e)) (hs : P.cellsOf e = s) (he : ∀ m, m < n -> ∀ x, zaT P m e x -> ∃ a, x = enc a) (h : zaT P n t ds) : ∃ l : List α, ds = [.sl false s (l.map enc)] := by
 cases n with
 | zero => exact (by unfold zaT at h; exact h : False).elim
 | succ n =>
  unfold zaT at h; rw [hu] at h
  obtain ⟨es, h1, h2⟩ := h
  obtain ⟨l, hl⟩ := ztS (enc := enc) (fun x hx => he n (by omega) x (h2 x hx))
  exact ⟨l, by rw [h1, hs, hl]⟩
end
end Go.Abs
namespace Go.Abs
def zipK : List Nat -> List AV -> List (Nat × AV)
 | k :: ks, v :: vs => (k, v) :: zipK ks vs
 | _, _ => []
def zqR (S : St) (ks : List Nat) : List Nat -> List (Nat × AV)
 | [] => []
 | k :: r => if k ∈ ks then zqR S ks r else (k, S.get k) :: zqR S ks r
attribute [simp] zipK zqR
end Go.Abs
namespace Go.Abs
def argA : Nat -> List AV -> List (Nat × AV)
 | _, [] => []
 | i, v :: vs => (i, v) :: argA (i + 1) vs
def zb6 : Nat -> List (Nat × Nat) -> List Blk
 | _, [] => []
 | i, t :: ts => .pin t i :: zb6 (i + 1) ts
def AC.ok : AC -> Prop
 | .d x => x.ok
 | _ => True
def AC.okL : List AC -> Prop
 | [] => True
 | c :: cs => c.ok /\ AC.okL cs
def AV.ok : AV -> Prop
 | .c x => x.ok
 | .ag cs => AC.okL cs
 | _ => True
def AV.okL : List AV -> Prop
 | [] => True
 | v :: vs => v.ok /\ AV.okL vs
def AC.okE (s : Nat) : List (List AC) -> Prop
 | [] => True
 | e :: es => (e.length = s /\ AC.okL e) /\ AC.okE s es
def Blk.ok : Blk -> Prop
 | .box cs => AC.okL cs
 | .arr s es => es.length <= zak /\ AC.okE s es
 | _ => True
section
variable {h : PH} {ρ : RM}
theorem RepC.ok : ∀ {x : AC} {v : Value}, RepC h ρ x v -> x.ok
 | .d x, v, r => by simp only [RepC] at r; exact RepD.ok _ _ r
 | .ptr _ _, _, _ => trivial
 | .ept _ _ _ _, _, _ => trivial
 | .msl _ _ _ _, _, _ => trivial
 | .map _, _, _ => trivial
 | .fn _ _, _, _ => trivial
 | .op _, _, _ => trivial
theorem zad.ok : ∀ {cs : List AC} {vs : List Value}, zad h ρ cs vs -> AC.okL cs
 | [], _, _ => trivial
 | _ :: _, [], r => by simp [zad] at r
 | c :: cs, v :: vs, r => by
  simp only [zad] at r
  exact ⟨r.1.2.ok, r.2.ok⟩
theorem RepV.ok : ∀ {x : AV} {v : Value}, RepV h ρ x v -> x.ok
 | .c x, v, r => by simp only [RepV] at r; exact RepC.ok r
 | .ag cs, v, r => by
  simp only [RepV] at r
  obtain ⟨vs, _, _, r⟩ := r
  exact r.ok
 | .tup _, _, _ => trivial
theorem zar.ok : ∀ {xs : List AV} {vs : List Value}, zar h ρ xs vs -> AV.okL xs
 | [], _, _ => trivial
 | _ :: _, [], r => by simp [zar] at r
 | x :: xs, v :: vs, r => by
  simp only [zar] at r
  exact ⟨r.1.ok, r.2.ok⟩
theorem zai.ok {s : Nat} : ∀ {es : List (List AC)} {vs : List Value}, zai h ρ s es vs -> AC.okE s es
 | [], _, _ => trivial
 | e :: es, vs, r => by
  simp only [zai] at r
  exact ⟨⟨r.1, r.2.1.ok⟩, r.2.2.ok⟩
theorem zaC.ok {p : Nat × Nat} {blk : Blk} {w : Heap} (r : zaC h ρ p blk w) : blk.ok := by
 cases blk with
 | box cs => obtain ⟨vs, T, _, _, r⟩ := r; exact r.ok
 | arr s es =>
  rcases r with ⟨_, rfl⟩ | ⟨vs, T, _, _, _, h4, r⟩
  ·exact ⟨by simp, trivial⟩
  ·exact ⟨h4, r.ok⟩
 | _ => trivial
theorem zar.len : ∀ {xs : List AV} {vs : List Value}, zar h ρ xs vs -> vs.length = xs.length
 | [], vs, r => by simp only [zar] at r; subst r; rfl
 | _ :: _, [], r => by simp [zar] at r
 | x :: xs, v :: vs, r => by simp only [zar] at r; simp [r.2.len]
end
def finB (S : St) (l : List Nat) : List Nat -> List Blk -> Prop
 | [], [] => True
 | j :: js, b :: bs => (b = .dead \/ S.m j = b.ren (fOf l)) /\ finB S l js bs
 | _, _ => False
def pinB (S : St) (l : List Nat) : List Nat -> List Nat -> List (Nat × Nat) -> List Blk -> Prop
 | _, _, [], _ => True
 | j :: js, q :: qs, t :: ts, b :: bs => (b = .dead \/ S.m q = .pin t j) /\ pinB S l js qs ts bs
 | _, _, _, _ => False
def EndM (v : AV) (bs' : List Blk) (ts : List (Nat × Nat)) (vs : List AV) (S : St) : Prop :=
 ∃ l qs : List Nat, l.Nodup /\ (∀ (h : PH) (ρ : RM) (vC : Value), RepV h ρ (one? vs) vC -> RepV h ρ (v.ren (fOf l)) vC) /\ finB S l l bs' /\ pinB S l l qs ts bs'
theorem EndM.mk {v : AV} {bs' : List Blk} {ts : List (Nat × Nat)} {vs : List AV} {S : St} (l qs : List Nat) (h : l.Nodup /\ one? vs = v.ren (fOf l) /\ finB S l l bs' /\ pinB S l l qs ts bs') : EndM v bs' ts vs S := ⟨l, qs, h.1, (fun _ _ _ r => h.2.1 ▸ r), h.2.2⟩
def endM (rs : List MR) (v : AV) (bs' : List Blk) (ts : List (Nat × Nat)) : Exit -> St -> Prop
 | .ret, S | .normal, S => zfz S rs fun vs => EndM v bs' ts vs S
 | _, _ => False
@[simp] theorem zw6 (rs : List MR) (v : AV) (bs' : List Blk) (ts : List (Nat × Nat)) (S : St) : endM rs v bs' ts .ret S = zf6 S rs (fun vs => EndM v bs' ts vs S) ⟨⟩ := (Eq.refl _).trans rfl
@[simp] theorem zvV (rs : List MR) (v : AV) (bs' : List Blk) (ts : List (Nat × Nat)) (S : St) : endM rs v bs' ts .normal S = zf6 S rs (fun vs => EndM v bs' ts vs S) ⟨⟩ := (Eq.refl _).trans rfl
attribute [simp] argA zb6 finB pinB AC.lv AC.lvs AV.lv AV.lvs Blk.lv AC.lvs_D newN zf4 wrL atL
theorem zmD : ∀ (i : Nat) (ts : List (Nat × Nat)), (zb6 i ts).length = ts.length
 | _, [] => rfl
 | i, t :: ts => by simp [zb6, zmD (i + 1) ts]
theorem zmE : ∀ (i : Nat) (ts : List (Nat × Nat)) (j : Nat), (zb6 i ts)[j]? = (ts[j]?).map fun t => .pin t (i + j)
 | _, [], j => by simp [zb6]
 | i, t :: ts, 0 => by simp [zb6]
 | i, t :: ts, j + 1 => by
  simp only [zb6, List.getElem?_cons_succ]
  rw [zmE (i + 1) ts j, show i + 1 + j = i + (j + 1) by omega]
theorem zpV {h : PH} {ρ : RM} : ∀ {ds : List AV} {us : List Value} (i : Nat), zar h ρ ds us -> ∀ k, RepV h ρ (look (argA i ds) k) (if i <= k then us.getD (k - i) undef else undef)
 | [], us, i, _, k => by simp [argA, look, RepV, RepC, RepD]
 | _ :: _, [], _, r, _ => by simp [zar] at r
 | d :: ds, u :: us, i, r, k => by
  simp only [zar] at r
  simp only [argA, look]
  by_cases hk : k = i
  ·subst hk; simp; exact r.1
  ·rw [if_neg hk]
   have := zpV (i + 1) r.2 k
   by_cases hle : i <= k
   ·rw [if_pos hle]
    rw [if_pos (by omega)] at this
    rw [show k - i = (k - (i + 1)) + 1 from by omega]
    simpa using this
   ·rw [if_neg hle]
    rw [if_neg (by omega)] at this
    exact this
theorem zpW {S : St} {l : List Nat} : ∀ {js : List Nat} {bs : List Blk}, finB S l js bs -> js.length = bs.length /\ ∀ i, i < js.length -> hpOf bs i = .dead \/ S.m (js.getD i 0) = (hpOf bs i).ren (fOf l)
 | [], [], _ => ⟨rfl, fun i hi => by simp at hi⟩
 | [], _ :: _, h => by simp [finB] at h
 | _ :: _, [], h => by simp [finB] at h
 | j :: js, b :: bs, h => by
  simp only [finB] at h
  obtain ⟨h1, h2⟩ := zpW h.2
  refine ⟨by simp [h1], fun i hi => ?_⟩
  cases i with
  | zero => simpa [hpOf] using h.1
  | succ i => simpa [hpOf] using h2 i (by simpa using hi)
theorem zpX {S : St} {l : List Nat} : ∀ {js qs : List Nat} {ts : List (Nat × Nat)} {bs : List Blk}, pinB S l js qs ts bs -> ∀ i t, ts[i]? = some t -> hpOf bs i = .dead \/ ∃ q, S.m q = .pin t (js.getD i 0)
 | _, _, [], _, _, i, t, e => by simp at e
 | [], _, _ :: _, _, h, _, _, _ => by simp [pinB] at h
 | _ :: _, [], _ :: _, _, h, _, _, _ => by simp [pinB] at h
 | _ :: _, _ :: _, _ :: _, [], h, _, _, _ => by simp [pinB] at h
 | j :: js, q :: qs, t :: ts, b :: bs, h, 0, t', e => by
  simp only [pinB] at h
  simp at e; subst e
  rcases h.1 with h | h
  ·exact .inl (by simpa [hpOf] using h)
  ·exact .inr ⟨q, by simpa using h⟩
 | j :: js, q :: qs, t :: ts, b :: bs, h, i + 1, t', e => by
  simp only [pinB] at h
  have := zpX h.2 i t' (by simpa using e)
  simpa [hpOf] using this
theorem zgY {bs : List Blk} {i : Nat} (h : i < bs.length) : bs[i]? = some (hpOf bs i) := by
 unfold hpOf; rw [List.getD_eq_getElem?_getD, List.getElem?_eq_getElem h]; rfl
theorem zcH {bs : List Blk} {i : Nat} (h : bs.length <= i) : hpOf bs i = .non := by
 unfold hpOf; rw [List.getD_eq_getElem?_getD, List.getElem?_eq_none h]; rfl
section
variable {P : Program}
theorem MCall.of_walk {f : FuncId} {fn : Func} {code : Code} {mc : MC} {rs : List MR} {args : List AV} {bs : List Blk} {v : AV} {bs' : List Blk} (hf : P.funcs[f]? = some fn) (hb : fn.body = some code) (hname : (fn.name != "runtime.NumGoroutine") = true)
  (hc : chkC P fn.ntmps mc code = true) (hr : chkR P rs fn.results.toList = true) (hn : args.length <= fn.ntmps) (hbs : ∀ i, i < bs.length -> hpOf bs i ≠ .non) (hle : bs.length <= bs'.length) (hnon : ∀ i, i < bs'.length -> hpOf bs' i ≠ .non)
  (hnew : ∀ i, bs.length <= i -> i < bs'.length -> hpOf bs' i ≠ .dead) (hvl : v.lv (live bs') = true) (hbl : ∀ b, b ∈ bs' -> b.lv (live bs') = true)
  (h : ∀ ts : List (Nat × Nat), ts.length = bs.length -> AV.okL args -> (∀ b, b ∈ bs -> b.ok) -> ∀ c : Ctx, c.N = fn.ntmps -> c.pure -> AW P c mc (endM rs v bs' ts) ⟨argA 0 args, hpOf (bs ++ zb6 0 ts), bs.length + ts.length⟩) : MCall P f args bs v bs' := by
 refine ⟨by unfold callee; rw [hf]; simp only [hb]; simpa using hname, hle, hnon, hvl, hbl, fun ph ρ0 w us H0 hG ra => ?_⟩
 have hlen := ra.len
 have some0 : ∀ i, i < bs.length -> ∃ p, ρ0 i = some p := fun i hi => by
  cases e : ρ0 i with
  | none => exact absurd ((H0.dom i).2 e) (hbs i hi)
  | some p => exact ⟨p, rfl⟩
 have none0 : ∀ i, bs.length <= i -> ρ0 i = none := fun i hi => (H0.dom i).1 (zcH hi)
 let ts : List (Nat × Nat) := (List.range bs.length).map fun i => (ρ0 i).getD (0, 0)
 have hts : ts.length = bs.length := by simp [ts]
 have tsget : ∀ i, i < bs.length -> ∀ p, ρ0 i = some p -> ts[i]? = some p := fun i hi p hp => by
  simp only [ts, List.getElem?_map, List.getElem?_range hi, Option.map_some, hp]; rfl
 let ρ1 : RM := fun b => if b < bs.length then ρ0 b else if b < bs.length + bs.length then ρ0 (b - bs.length) else none
 have m1a : ∀ b, b < bs.length -> hpOf (bs ++ zb6 0 ts) b = hpOf bs b := fun b hb => by
  unfold hpOf; rw [List.getD_eq_getElem?_getD, List.getD_eq_getElem?_getD, List.getElem?_append_left hb]
 have m1b : ∀ j, j < bs.length -> ∀ p, ρ0 j = some p -> hpOf (bs ++ zb6 0 ts) (bs.length + j) = .pin p j := fun j hj p hp => by
  unfold hpOf; rw [List.getD_eq_getElem?_getD, List.getElem?_append_right (by omega), Nat.add_sub_cancel_left, zmE, tsget j hj p hp]; simp
 have m1c : ∀ b, bs.length + bs.length <= b -> hpOf (bs ++ zb6 0 ts) b = .non := fun b hb => zcH (by rw [List.length_append, zmD, hts]; exact hb)
 have rle : ρ0.le ρ1 := fun b p hp => by
  have : b < bs.length := by
   rcases Nat.lt_or_ge b bs.length with h | h
   ·exact h
   ·rw [none0 b h] at hp; cases hp
  show (if b < bs.length then _ else _) = _
  rw [if_pos this]; exact hp
 have r1 : ∀ b p, ρ1 b = some p -> (b < bs.length /\ ρ0 b = some p) \/ ∃ j, j < bs.length /\ b = bs.length + j /\ ρ0 j = some p := fun b p hp => by
  simp only [ρ1] at hp
  split at hp
  ·exact .inl ⟨by assumption, hp⟩
  ·split at hp
   ·exact .inr ⟨b - bs.length, by omega, by omega, hp⟩
   ·cases hp
 have H1 : HRel ph ρ1 (hpOf (bs ++ zb6 0 ts)) w.heap := by
  refine ⟨H0.pers, ?_, ?_, ?_, ?_⟩
  ·intro b
   by_cases h1 : b < bs.length
   ·rw [m1a b h1, H0.dom]; show _ ↔ (if b < bs.length then _ else _) = _; rw [if_pos h1]
   ·by_cases h2 : b < bs.length + bs.length
    ·obtain ⟨j, rfl⟩ : ∃ j, b = bs.length + j := ⟨b - bs.length, by omega⟩
     obtain ⟨p, hp⟩ := some0 j (by omega)
     rw [m1b j (by omega) p hp]
     show _ ↔ (if _ then _ else if _ then ρ0 (bs.length + j - bs.length) else _) = _
     rw [if_neg h1, if_pos h2, Nat.add_sub_cancel_left, hp]; simp
    ·rw [m1c b (by omega)]
     show _ ↔ (if _ then _ else if _ then _ else _) = _
     rw [if_neg h1, if_neg h2]; simp
  ·intro b p hp
   rcases r1 b p hp with ⟨h1, h2⟩ | ⟨j, h1, rfl, h2⟩
   ·rw [m1a b h1]; exact zaC.congr (PH.le_refl ph) rle rfl (H0.own b p h2)
   ·rw [m1b j h1 p h2]; exact ⟨rfl, rle _ _ h2⟩
  ·intro b c p q hb hc' hrb hrc he
   rcases r1 b p hb with ⟨h1, h2⟩ | ⟨j, h1, rfl, h2⟩
   ·rcases r1 c q hc' with ⟨h3, h4⟩ | ⟨k, h3, rfl, h4⟩
    ·rw [m1a b h1] at hrb; rw [m1a c h3] at hrc
     exact H0.inj b c p q h2 h4 hrb hrc he
    ·rw [m1b k h3 q h4] at hrc; exact hrc.elim
   ·rw [m1b j h1 p h2] at hrb; exact hrb.elim
  ·intro b p hb hrb
   rcases r1 b p hb with ⟨h1, h2⟩ | ⟨j, h1, rfl, h2⟩
   ·rw [m1a b h1] at hrb; exact H0.sep b p h2 hrb
   ·rw [m1b j h1 p h2] at hrb; exact hrb.elim
 let c : Ctx := ⟨ph, ρ0, hpOf bs, w, fn.ntmps⟩
 have hpure : c.pure := trivial
 have hblk : ∀ b, b ∈ bs -> b.ok := fun b hb => by
  obtain ⟨i, hi, rfl⟩ := List.getElem_of_mem hb
  obtain ⟨p, hp⟩ := some0 i hi
  have := (H0.own i p hp).ok
  rwa [show hpOf bs i = bs[i] by unfold hpOf; rw [List.getD_eq_getElem?_getD, List.getElem?_eq_getElem hi]; rfl] at this
 refine calls_of_wp hf hb (wp_mono (h ts hts ra.ok hblk c rfl hpure code hc _ w ?_) fun e a' w' ⟨S', r', q⟩ => ?_)
 ·refine ⟨hG, rfl, ?_, ph, ρ1, H1, ⟨PH.le_refl ph, fun B _ _ => rfl, Nat.le_refl _, fun B _ _ => rfl, ?_⟩, Same.refl w, fun k => ?_⟩
  ·simp [c]; omega
  ·intro b p hb hrb
   rcases r1 b p hb with ⟨h1, h2⟩ | ⟨j, h1, rfl, h2⟩
   ·have hrb : Real (hpOf (bs ++ zb6 0 ts) b) p := hrb
    rw [m1a b h1] at hrb; exact .inr ⟨b, p, h2, hrb, rfl⟩
   ·have hrb : Real (hpOf (bs ++ zb6 0 ts) (bs.length + j)) p := hrb
    rw [m1b j h1 p h2] at hrb; exact hrb.elim
  ·show RepV ph ρ1 (look (argA 0 args) k) _
   have ra1 : zar ph ρ1 args us := zar.mono (PH.le_refl ph) rle _ _ ra
   have := zpV 0 ra1 k
   simp only [Nat.zero_le, if_true, Nat.sub_zero] at this
   have e1 : (us.toArray ++ Array.replicate (fn.ntmps - us.toArray.size) undef).getD k undef = us.getD k undef := by
    rw [Array.getD_eq_getD_getElem?, List.getD_eq_getElem?_getD, Array.getElem?_append]
    split
    ·simp
    ·rename_i hh
     rw [List.getElem?_eq_none (by simpa using hh)]
     simp only [Array.getElem?_replicate]
     split <;> rfl
   rw [e1]
   exact this
 ·obtain ⟨ph', ρS, H, S0, e0, hg⟩ := r'.ex
  have fin : zfz S' rs (fun vs => EndM v bs' ts vs S') -> ∃ vC, (results fn a'.tmps).run P w' = .ok vC w' /\ ∃ (vC' : Value) (h' : PH) (ρ' : RM), Ending.returned vC = .returned vC' /\ zdD ph ρ0 (hpOf bs) w.heap h' ρ' (hpOf bs') w'.heap /\ HRel h' ρ' (hpOf bs') w'.heap /\ Same w w' /\ RepV h' ρ' v vC' /\
    ∀ i, i < bs.length -> ρ' i = ρ0 i := by
   intro hk
   obtain ⟨vs, ⟨l, qs, lnd, kv, kf, kp⟩, F⟩ := zjL hr hk
   obtain ⟨us', g1, g2⟩ := F (a := a') H hg
   have hres : Runs P (results fn a'.tmps) w' (oneV us') w' := by
    unfold results
    refine Runs.bind (a := us'.toArray) (w' := w') ?_ ?_
    ·rw [Array.mapM_eq_mapM_toList]
     exact g1.map (f := List.toArray)
    ·cases us' with
     | nil => exact Runs.pure _
     | cons u us' =>
      cases us' with
      | nil => exact Runs.pure _
      | cons u' us' => exact Runs.pure _
   have hrep : RepV ph' ρS (one? vs) (oneV us') := by
    cases vs with
    | nil =>
     simp only [zar] at g2; subst g2
     simp only [one?, RepV]
     exact ⟨[], rfl, rfl⟩
    | cons x xs =>
     cases us' with
     | nil => simp [zar] at g2
     | cons u us' =>
      cases xs with
      | nil =>
       simp only [zar] at g2
       rw [g2.2]
       exact g2.1
      | cons y ys =>
       cases us' with
       | nil => simp [zar] at g2
       | cons u' us' =>
        simp only [one?, RepV]
        exact ⟨_, rfl, g2⟩
   have hrep := kv _ _ _ hrep
   obtain ⟨kl, kf⟩ := zpW kf
   -- which numbers are live
   have lv_ : ∀ i, live bs' i = true ↔ i < bs'.length /\ hpOf bs' i ≠ .dead := by
    intro i
    unfold live
    rcases Nat.lt_or_ge i bs'.length with hi | hi
    ·rw [zgY hi]
     have := hnon i hi
     cases e : hpOf bs' i <;> simp_all
    ·rw [List.getElem?_eq_none hi]; simp; omega
   let ρ2 : RM := fun i => if i < bs.length then ρ0 i else if i < bs'.length then ρS (fOf l i) else none
   have mS : ∀ i, live bs' i = true -> S'.m (fOf l i) = (hpOf bs' i).ren (fOf l) := fun i hi => by
    obtain ⟨h1, h2⟩ := (lv_ i).1 hi
    exact (kf i (by omega)).resolve_left h2
   have rS : ∀ i, live bs' i = true -> ρ2 i = ρS (fOf l i) := fun i hi => by
    obtain ⟨h1, h2⟩ := (lv_ i).1 hi
    show (if i < bs.length then _ else _) = _
    by_cases hib : i < bs.length
    ·rw [if_pos hib]
     obtain ⟨p, hp⟩ := some0 i hib
     obtain ⟨q, hq⟩ := (zpX kp i p (tsget i hib p hp)).resolve_left h2
     cases e : ρS q with
     | none => rw [(H.dom q).2 e] at hq; cases hq
     | some t =>
      have := H.own q t e
      rw [hq] at this
      rw [hp]; exact this.2.symm
    ·rw [if_neg hib, if_pos h1]
   have mvH : ∀ b q, live bs' b = true -> ρS (fOf l b) = some q -> ρ2 (id b) = some q := fun b q hb hq => by rw [<- rS b hb] at hq; exact hq
   have linj : ∀ i j, i < bs'.length -> j < bs'.length -> fOf l i = fOf l j -> i = j := by
    intro i j h1 h2 e
    unfold fOf at e
    rw [List.getD_eq_getElem?_getD, List.getD_eq_getElem?_getD, List.getElem?_eq_getElem (by omega), List.getElem?_eq_getElem (by omega)] at e
    simp only [Option.getD_some] at e
    exact (List.getElem?_inj (by omega) lnd).1 (by rw [List.getElem?_eq_getElem (by omega), List.getElem?_eq_getElem (by omega), e])
   have real_ : ∀ b p, ρ2 b = some p -> Real (hpOf bs' b) p -> live bs' b = true /\ b < bs'.length := fun b p hp hr => by
    have hb : b < bs'.length := by
     rcases Nat.lt_or_ge b bs'.length with h | h
     ·exact h
     ·rw [zcH h] at hr; exact hr.elim
    exact ⟨(lv_ b).2 ⟨hb, fun e => by rw [e] at hr; exact hr⟩, hb⟩
   have H2 : HRel ph' ρ2 (hpOf bs') w'.heap := by
    refine ⟨H.pers, ?_, ?_, ?_, ?_⟩
    ·intro b
     by_cases h1 : b < bs.length
     ·obtain ⟨p, hp⟩ := some0 b h1
      show _ ↔ (if b < bs.length then _ else _) = _
      rw [if_pos h1, hp]
      simp [hnon b (by omega)]
     ·by_cases h2 : b < bs'.length
      ·have hl := (lv_ b).2 ⟨h2, hnew b (by omega) h2⟩
       rw [rS b hl, <- H.dom, mS b hl]
       cases hpOf bs' b <;> simp [Blk.ren]
      ·rw [zcH (by omega)]
       show _ ↔ (if _ then _ else if _ then _ else _) = _
       rw [if_neg h1, if_neg h2]; simp
    ·intro b p hp
     by_cases hd : hpOf bs' b = .dead
     ·rw [hd]; trivial
     ·have hb : b < bs'.length := by
       rcases Nat.lt_or_ge b bs'.length with h | h
       ·exact h
       ·have h1 : ¬ b < bs.length := by omega
        simp only [ρ2] at hp
        rw [if_neg h1, if_neg (by omega)] at hp; cases hp
      have hl := (lv_ b).2 ⟨hb, hd⟩
      rw [rS b hl] at hp
      have := H.own _ p hp
      rw [mS b hl] at this
      have h3 := zaC.mv (f2 := id) mvH (hbl _ (List.mem_of_getElem? (zgY hb))) this
      rwa [Blk.ren_id] at h3
    ·intro b c' p q hb hc' hrb hrc he
     obtain ⟨l1, b1⟩ := real_ b p hb hrb
     obtain ⟨l2, b2⟩ := real_ c' q hc' hrc
     rw [rS b l1] at hb; rw [rS c' l2] at hc'
     exact linj b c' b1 b2 (H.inj _ _ p q hb hc' (by rw [mS b l1]; exact Real.ren.2 hrb) (by rw [mS c' l2]; exact Real.ren.2 hrc) he)
    ·intro b p hb hrb
     obtain ⟨l1, b1⟩ := real_ b p hb hrb
     rw [rS b l1] at hb
     exact H.sep _ p hb (by rw [mS b l1]; exact Real.ren.2 hrb)
   refine ⟨_, hres, _, ph', ρ2, rfl, ⟨S0.hle, S0.hlow, S0.size, S0.frame, ?_⟩, H2, e0, ?_, ?_⟩
   ·intro b p hb hrb
    obtain ⟨l1, b1⟩ := real_ b p hb hrb
    rw [rS b l1] at hb
    exact S0.own _ p hb (by rw [mS b l1]; exact Real.ren.2 hrb)
   ·have := RepV.mv (f2 := id) mvH v _ hvl hrep
    rwa [AV.ren_id] at this
   ·intro i hi
    show (if i < bs.length then _ else _) = _
    rw [if_pos hi]
  cases e with
  | normal => exact ⟨r'.defers, fin q⟩
  | ret => exact ⟨r'.defers, fin q⟩
  | exit _ => exact q.elim
  | goto _ => exact q.elim
  | panic _ => exact q.elim
  | outgrown => exact q.elim
end
end Go.Abs
namespace Go.Abs
def zaa (P : Program) (f : FuncId) (vs : List AV) (m : Hp) (n : Nat) (K : AV -> List Nat -> List (Nat × Blk) -> Nat -> Prop) (_ : Tag K) : Prop := mcallB P f vs m n K
theorem zaa.mk {P : Program} {f : FuncId} {vs : List AV} {m : Hp} {n : Nat} {K : AV -> List Nat -> List (Nat × Blk) -> Nat -> Prop} {g : Tag K} (l : List Nat) {args : List AV} {bs : List Blk} {v : AV} {bs' : List Blk} (h : MCall P f args bs v bs')
  (hs : l.Nodup /\ (∀ i, i ∈ l -> i < n) /\ vs = AV.rens (fOf l) args /\ AV.lts l.length args = true /\ (∀ b, b ∈ bs -> b.lt l.length = true) /\ atL m (fOf l) l bs /\ zf4 m n (bs'.length - bs.length))
  (k : K (v.ren (fOf (l ++ newN n (bs'.length - bs.length)))) [] (wrL (fOf (l ++ newN n (bs'.length - bs.length))) (l ++ newN n (bs'.length - bs.length)) bs') (n + (bs'.length - bs.length))) : zaa P f vs m n K g :=
 ⟨l, args, bs, v, bs', h, hs.1, hs.2.1, hs.2.2.1, hs.2.2.2.1, hs.2.2.2.2.1, hs.2.2.2.2.2.1, hs.2.2.2.2.2.2, k⟩
section
variable {P : Program} {get : Nat -> AV} {m : Hp} {n : Nat} {K : AV -> List Nat -> List (Nat × Blk) -> Nat -> Prop}
@[simp] theorem zwA (f : FuncId) (xs : List MX) {g} : eV P K (.callM f xs) g get m n = zaa P f (xs.map (X get)) m n K ⟨⟩ := (Eq.refl _).trans rfl
end
def Blk.tag : Blk -> Nat
 | .non => 0
 | .dead => 1
 | _ => 2
attribute [simp] Blk.tag
def MStat (args : List AV) (N : Nat) (bs : List Blk) (v : AV) (bs' : List Blk) : Prop :=
 args.length <= N /\ (bs.all fun b => b.tag != 0) = true /\ bs.length <= bs'.length /\ (bs'.all fun b => b.tag != 0) = true /\ ((bs'.drop bs.length).all fun b => b.tag == 2) = true /\ v.lv (live bs') = true /\ (bs'.all fun b => b.lv (live bs')) = true
theorem zfN {bs : List Blk} (h : (bs.all fun b => b.tag != 0) = true) (i : Nat) (hi : i < bs.length) : hpOf bs i ≠ .non := by
 intro e
 have := List.all_eq_true.1 h _ (List.mem_of_getElem? (zgY hi))
 rw [e] at this; simp at this
theorem zsR {bs : List Blk} {k : Nat} (h : ((bs.drop k).all fun b => b.tag == 2) = true) (i : Nat) (hk : k <= i) (hi : i < bs.length) : hpOf bs i ≠ .dead := by
 intro e
 have hm : hpOf bs i ∈ bs.drop k := by
  refine List.mem_of_getElem? (i := i - k) ?_
  rw [List.getElem?_drop, show k + (i - k) = i by omega]
  exact zgY hi
 have := List.all_eq_true.1 h _ hm
 rw [e] at this; simp at this
theorem MCall.of_walk' {P : Program} {f : FuncId} {fn : Func} {code : Code} {mc : MC} {rs : List MR} {args : List AV} {bs : List Blk} {v : AV} {bs' : List Blk} (hf : P.funcs[f]? = some fn) (hb : fn.body = some code) (hname : (fn.name != "runtime.NumGoroutine") = true)
  (hc : chkC P fn.ntmps mc code = true) (hr : chkR P rs fn.results.toList = true) (hm : P.follows .mixedOrders = true) (hs : MStat args fn.ntmps bs v bs')
  (h : ∀ ts : List (Nat × Nat), ts.length = bs.length -> AV.okL args -> (∀ b, b ∈ bs -> b.ok) -> ∀ c : Ctx, c.N = fn.ntmps -> c.pure -> w_ P c mc (endM rs v bs' ts) ⟨⟩ ⟨argA 0 args, hpOf (bs ++ zb6 0 ts), bs.length + ts.length⟩) : MCall P f args bs v bs' :=
 MCall.of_walk hf hb hname hc hr hs.1 (zfN hs.2.1) hs.2.2.1 (zfN hs.2.2.2.1) (zsR hs.2.2.2.2.1) hs.2.2.2.2.2.1 (fun b hb => List.all_eq_true.1 hs.2.2.2.2.2.2 b hb) fun ts h1 h2 h3 c h4 h5 => W.aw hm (zaw (h ts h1 h2 h3 c h4 h5))
end Go.Abs
namespace Go.Abs
theorem MCall.frz {P : Program} {f : FuncId} {args : List AV} {bs : List Blk} {ds : List DV} {d : D} (hp : PCall P f ds (.one d)) (hd : ∀ (h h' : PH) (v : Value), RepD h d v -> RepD h' d v) (e : zeD (hpOf bs) args = some ds)
  (h1 : ∀ i, i < bs.length -> hpOf bs i ≠ .non) (h2 : (bs.all fun b => b.lv (live bs)) = true) : MCall P f args bs (.c (.d d)) bs := by
 refine ⟨hp.1, Nat.le_refl _, h1, rfl, fun b hb => List.all_eq_true.1 h2 b hb, fun h ρ w argsC H hG r => ?_⟩
 have k := zgO (n := 0) H (fun _ _ _ _ => Nat.zero_le _) args ds argsC e r
 refine (hp.2 (zbj h 0 w.heap) w argsC (zfa H) (hG.mono (zdx H)) k).mono fun e w' hh => ?_
 obtain ⟨vC, h', e1, e2, e3, e4, e5, e6, e7, e8⟩ := hh
 have hx : ∀ B, B < w.heap.size -> w'.heap[B]? = w.heap[B]? := e6
 have hP : ∀ B o, h B = some o -> w'.heap[B]? = some o := fun B o he => by
  rw [e6 B (H.lt he)]; exact H.pers B o he
 refine ⟨vC, h, ρ, e1, ⟨fun _ _ he => he, fun B hB _ => rfl, e5, fun B hB _ => e6 B hB, fun b p hp hr => .inr ⟨b, p, hp, hr, rfl⟩⟩, H.grow (fun _ _ he => he) hP (fun B hB _ => ⟨e6 B hB, rfl⟩), e7, ?_, fun _ _ => rfl⟩
 simp only [zaH] at e8
 simp only [RepV, RepC]
 exact hd _ _ _ e8
theorem MCall.frzI {P : Program} {f : FuncId} {args : List AV} {bs : List Blk} {ds : List DV} {k : IntKind} {i : Int} (hp : PCall P f ds (.one (.int k i))) (e : zeD (hpOf bs) args = some ds)
  (h1 : (bs.all fun b => b.tag != 0) = true) (h2 : (bs.all fun b => b.lv (live bs)) = true) : MCall P f args bs (.c (.d (.int k i))) bs :=
 MCall.frz hp (fun h h' v r => by simpa [RepD] using r) e (zfN h1) h2
end Go.Abs
namespace Go.Abs
mutual
def D.erd : D -> D
 | .sl _ s es => .sl false s (D.erdE es)
 | .any => .any
 | .int k n => .int k n
 | .bool b => .bool b
 | .str s => .str s
 | .sc v => .sc v
 | .rp cs o => .rp (D.erdL cs) o
 | .fn f c => .fn f c
 | .ifc t a c => .ifc t a c
def D.erdL : List D -> List D
 | [] => []
 | d :: ds => d.erd :: D.erdL ds
def D.erdE : List (List D) -> List (List D)
 | [] => []
 | e :: es => D.erdL e :: D.erdE es
end
theorem D.erdL_length : ∀ ds : List D, (D.erdL ds).length = ds.length
 | [] => rfl
 | d :: ds => by simp [D.erdL, D.erdL_length ds]
theorem D.erdE_length : ∀ es : List (List D), (D.erdE es).length = es.length
 | [] => rfl
 | d :: ds => by simp [D.erdE, D.erdE_length ds]
mutual
theorem RepD.erd {h : PH} : ∀ (d : D) (v : Value), RepD h d v -> RepD h d.erd v
 | .sl x s es, v, r => by
  simp only [D.erd]
  simp only [RepD] at r ⊢
  obtain ⟨a, cap, r1, r2, r3, r4, r5, r6, r7⟩ := r
  refine ⟨a, cap, by rw [r1, D.erdE_length], by rw [D.erdE_length]; exact r2, (fun h => by cases h), by rw [D.erdE_length]; exact r4, (fun ha => ⟨?_, (r5 ha).2⟩), r6, RepE.erd s es _ r7⟩
  rw [(r5 ha).1]; rfl
 | .any, v, r => by simp only [D.erd]; exact r
 | .int k n, v, r => by simp only [D.erd]; exact r
 | .bool b, v, r => by simp only [D.erd]; exact r
 | .str s, v, r => by simp only [D.erd]; exact r
 | .sc u, v, r => by simp only [D.erd]; exact r
 | .rp cs o, v, r => by
  simp only [D.erd]
  simp only [RepD] at r ⊢
  obtain ⟨B, o', e1, e2⟩ := r
  exact ⟨B, o', e1, RepL.erd _ _ e2⟩
 | .fn f c, v, r => by simp only [D.erd]; exact r
 | .ifc t a c, v, r => by simp only [D.erd]; exact r
theorem RepL.erd {h : PH} : ∀ (ds : List D) (vs : List Value), RepL h ds vs -> RepL h (D.erdL ds) vs
 | [], vs, r => by simp [D.erdL, RepL]
 | _ :: _, [], r => by simp [RepL] at r
 | d :: ds, v :: vs, r => by
  simp only [RepL] at r
  simp only [D.erdL, RepL]
  exact ⟨⟨r.1.1, RepD.erd d v r.1.2⟩, RepL.erd ds vs r.2⟩
theorem RepE.erd {h : PH} (s : Nat) : ∀ (es : List (List D)) (vs : List Value), RepE h s es vs -> RepE h s (D.erdE es) vs
 | [], vs, r => by simp [D.erdE, RepE]
 | e :: es, vs, r => by
  simp only [RepE] at r
  simp only [D.erdE, RepE]
  exact ⟨by rw [D.erdL_length]; exact r.1, RepL.erd e vs r.2.1, RepE.erd s es _ r.2.2⟩
end
mutual
def DV.erd : DV -> DV
 | .one x => .one x.erd
 | .agg cs => .agg (D.erdL cs)
 | .tup vs => .tup (DV.erds vs)
def DV.erds : List DV -> List DV
 | [] => []
 | v :: vs => v.erd :: DV.erds vs
end
mutual
theorem zaH.erd {h : PH} : ∀ {d : DV} {v : Value}, zaH h d v -> zaH h d.erd v
 | .one x, v, r => by simp only [zaH, DV.erd] at r ⊢; exact RepD.erd _ _ r
 | .agg cs, v, r => by
  simp only [zaH, DV.erd] at r ⊢
  obtain ⟨vs, r1, r2, r3⟩ := r
  exact ⟨vs, r1, by rw [r2, D.erdL_length], RepL.erd _ _ r3⟩
 | .tup xs, v, r => by
  simp only [zaH, DV.erd] at r ⊢
  obtain ⟨vs, r1, r2⟩ := r
  exact ⟨vs, r1, zav.erds r2⟩
theorem zav.erds {h : PH} : ∀ {ds : List DV} {vs : List Value}, zav h ds vs -> zav h (DV.erds ds) vs
 | [], _, r => by simpa [zav, DV.erds] using r
 | _ :: _, [], r => by simp [zav] at r
 | d :: ds, v :: vs, r => by
  simp only [zav] at r
  simp only [DV.erds, zav]
  exact ⟨zaH.erd r.1, zav.erds r.2⟩
end
theorem PCall.erd {P : Program} {f : FuncId} {args args' : List DV} {v : DV} (h : PCall P f args' v) (e : DV.erds args = args') : PCall P f args v := by
 subst e
 exact ⟨h.1, fun ph w us hp hG r => h.2 ph w us hp hG (zav.erds r)⟩
theorem zjx : ∀ (a b : List (List D)), D.erdE (a ++ b) = D.erdE a ++ D.erdE b
 | [], b => by simp [D.erdE]
 | x :: a, b => by simp [D.erdE, zjx a b]
end Go.Abs
namespace Go.Abs
end Go.Abs
