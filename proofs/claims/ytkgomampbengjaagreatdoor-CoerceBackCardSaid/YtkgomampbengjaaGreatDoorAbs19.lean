/- Rules by which a walk is reckoned out by 'simp'. -/
import Derived.Test.YtkgomampbengjaaGreatDoorAbsO
set_option linter.unusedVariables false
namespace Go.Abs

/-- a boolean is this, or not this -/
def gd (b want : Bool) (A B : Prop) : Prop := (b = want → A) ∧ (b = (!want) → B)
@[simp ↓] theorem gd_tt (A B : Prop) : gd true true A B = A := by simp [gd]
@[simp ↓] theorem gd_ff (A B : Prop) : gd false false A B = A := by simp [gd]
@[simp ↓] theorem gd_tf (A B : Prop) : gd true false A B = B := by simp [gd]
@[simp ↓] theorem gd_ft (A B : Prop) : gd false true A B = B := by simp [gd]
theorem gd.mk {b want : Bool} {A B : Prop} (h1 : b = want → A) (h2 : b = (!want) → B) : gd b want A B := ⟨h1, h2⟩

theorem gd_true (b : Bool) (A B : Prop) : ((b = true → A) ∧ (b = false → B)) = gd b true A B := rfl

/-- what 'simp' is to leave alone -/
structure Tag {α : Type} (a : α) : Type where
  mk ::

/-- a call; what comes behind it is left alone -/
def callK (P : Program) (f : FuncId) (ds : List DV) (K : DV → Prop) (_ : Tag K) : Prop := ∃ v, PCall P f ds v ∧ K v
theorem callK.mk {P : Program} {f : FuncId} {ds : List DV} {K : DV → Prop} {t : Tag K} {v : DV} (h : PCall P f ds v) (k : K v) : callK P f ds K t := ⟨v, h, k⟩

/-- truths alone -/
def isB (q : Value → Prop) : Prop := ∀ v, q v → isBoolV v
@[simp] theorem isB_bool : isB isBoolV := fun _ h => h
/-- a walk, reckoned -/
def W (P : Program) (c : Ctx) : MC → (Exit → St → Prop) → St → Prop
  | .skip, Q, S => Q .normal S
  | .reg os, Q, S => runO P os S (fun S' => Q .normal S')
  | .regd bef os, Q, S => runD P os S [] (fun S' fps => okFps bef fps = true ∧ Q .normal S')
  | .seq a b, Q, S => W P c a (thenQ (W P c b Q) Q) S
  | .cond (.t k) a b, Q, S => match S.get k with
    | .c (.d (.bool t)) => gd t true (W P c a Q (S.know k true)) (W P c b Q (S.know k false))
    | .c (.op q) => isB q ∧ W P c a Q S ∧ W P c b Q S
    | _ => False
  | .cond (.k _) _ _, _, _ => False
  | .block i b, Q, S => W P c b (blockQ i Q) S
  | .loop b, Q, S => AW P c (.loop b) Q S
  | .exit i, Q, S => Q (.exit i) S
  | .ret, Q, S => Q .ret S
  | .fzq a, Q, S => ∃ l, fzG S l fun S' => W P c a Q S'
  | .owq a, Q, S => ∃ l, owG S l fun S' => W P c a Q S'

theorem W.aw {P : Program} {c : Ctx} (hm : P.follows .mixedOrders = true) : ∀ {mc : MC} {Q : Exit → St → Prop} {S : St}, W P c mc Q S → AW P c mc Q S
  | .skip, Q, S, h => AW.skip h
  | .reg os, Q, S, h => AW.reg h
  | .regd bef os, Q, S, h => AW.regd hm h
  | .seq a b, Q, S, h => AW.seq ((show AW P c a (thenQ (W P c b Q) Q) S from W.aw hm h).mono (Q' := thenQ (AW P c b Q) Q) fun e S' q => by
      cases e with
      | normal => exact W.aw hm q
      | _ => exact q)
  | .cond (.t k) a b, Q, S, h => by
    simp only [W] at h
    split at h
    · rename_i t e
      refine AW.cond (x := .t k) e (fun ht => ?_) (fun ht => ?_)
      · have h1 := W.aw hm (h.1 ht)
        intro code hc ac w r
        rw [ht] at e
        exact h1 code hc ac w (by rw [St.know_get e]; exact r)
      · have h1 := W.aw hm (h.2 (by simpa using ht))
        intro code hc ac w r
        rw [ht] at e
        exact h1 code hc ac w (by rw [St.know_get e]; exact r)
    · rename_i q e
      exact AW.condU (x := .t k) e h.1 (W.aw hm h.2.1) (W.aw hm h.2.2)
    · exact h.elim
  | .cond (.k x) a b, Q, S, h => False.elim h
  | .block i b, Q, S, h => AW.block (W.aw hm h)
  | .loop b, Q, S, h => h
  | .exit i, Q, S, h => AW.exit h
  | .ret, Q, S, h => AW.ret h
  | .fzq a, Q, S, h => by
    obtain ⟨l, h⟩ := h
    exact AW.fzq l (fzG.mono l h fun S' k => W.aw hm k)
  | .owq a, Q, S, h => by
    obtain ⟨l, h⟩ := h
    exact AW.owq l (owG.mono l h fun S' k => W.aw hm k)

/-- a place at which blocks may be kept for good -/
def fzK (S : St) (K : St → Prop) (_ : Tag K) : Prop := ∃ l, fzG S l K
/-- a place at which nil slices may be taken for the walk's own -/
def owK (S : St) (K : St → Prop) (_ : Tag K) : Prop := ∃ l, owG S l K
theorem owK.mk {S : St} {K : St → Prop} {g : Tag K} (l : List OwP) (h : owG S l K) : owK S K g := ⟨l, h⟩
theorem fzK.mk {S : St} {K : St → Prop} {g : Tag K} (l : List Nat) (h : fzG S l K) : fzK S K g := ⟨l, h⟩

def w_ (P : Program) (c : Ctx) (mc : MC) (Q : Exit → St → Prop) (_ : Tag (mc, Q)) (S : St) : Prop := W P c mc Q S
def lw_ (P : Program) (c : Ctx) (mc : MC) (Q : Exit → St → Prop) (_ : Tag (mc, Q)) (S : St) : Prop := AW P c (.loop mc) Q S
def rO (P : Program) (os : List MO) (K : St → Prop) (_ : Tag (os, K)) (S : St) : Prop := runO P os S K
def rD (P : Program) (os : List MO) (K : St → List FP → Prop) (_ : Tag (os, K)) (S : St) (fps : List FP) : Prop := runD P os S fps K
def eV (P : Program) (K : AV → List Nat → List (Nat × Blk) → Nat → Prop) (op : MOp) (_ : Tag (op, K)) (get : Nat → AV) (m : Hp) (n : Nat) : Prop := ev P get m n K op

/-- the next round of a loop -/
def Next {Y : Type} (I : Y → Prop) (t : Y → List (Nat × AV)) (bs : Y → List Blk) (μ : Y → Nat) (x : Y) (_ : Tag (I, t, bs, μ, x)) (S : St) : Prop := ∃ x' l, I x' ∧ Match l S (t x') (bs x') ∧ μ x' < μ x
theorem Next.mk {Y : Type} {I : Y → Prop} {t : Y → List (Nat × AV)} {bs : Y → List Blk} {μ : Y → Nat} {x : Y} {g : Tag (I, t, bs, μ, x)} {S : St} (x' : Y) (l : List Nat) (h1 : I x') (h2 : μ x' < μ x) (h3 : Match l S (t x') (bs x')) : Next I t bs μ x g S := ⟨x', l, h1, h3, h2⟩

theorem W.loop {P : Program} {c : Ctx} {Q : Exit → St → Prop} {S : St} {Y : Type} (hm : P.follows .mixedOrders = true) (hp : c.pure) {body : MC} {g : Tag (body, Q)} (I : Y → Prop) (t : Y → List (Nat × AV)) (bs : Y → List Blk) (μ : Y → Nat) (x0 : Y) (l0 : List Nat) (hI : I x0) (h0 : Match l0 S (t x0) (bs x0))
    (round : ∀ x, I x → w_ P c body (thenQ (Next I t bs μ x ⟨⟩) Q) ⟨⟩ (hd (t x) (bs x))) : lw_ P c body Q g S :=
  AW.loop hp I t bs μ hI h0 fun x hx => W.aw hm (round x hx)

section
variable {P : Program} {c : Ctx} {Q : Exit → St → Prop} {S : St}
theorem w_start {mc : MC} (h : w_ P c mc Q ⟨⟩ S) : W P c mc Q S := h
@[simp] theorem w_skip {g} : w_ P c .skip Q g S = Q .normal S := (Eq.refl _).trans rfl
@[simp] theorem w_reg (os : List MO) {g} : w_ P c (.reg os) Q g S = rO P os (fun S' => Q .normal S') ⟨⟩ S := (Eq.refl _).trans rfl
@[simp] theorem w_regd (bef : List Nat) (os : List MO) {g} : w_ P c (.regd bef os) Q g S = rD P os (fun S' fps => okFps bef fps = true ∧ Q .normal S') ⟨⟩ S [] := (Eq.refl _).trans rfl
@[simp] theorem w_seq (a b : MC) {g} : w_ P c (.seq a b) Q g S = w_ P c a (thenQ (w_ P c b Q ⟨⟩) Q) ⟨⟩ S := (Eq.refl _).trans rfl
@[simp] theorem w_cond (k : Nat) (a b : MC) {g} : w_ P c (.cond (.t k) a b) Q g S = (match S.get k with
    | .c (.d (.bool t)) => gd t true (w_ P c a Q ⟨⟩ (S.know k true)) (w_ P c b Q ⟨⟩ (S.know k false))
    | .c (.op q) => isB q ∧ w_ P c a Q ⟨⟩ S ∧ w_ P c b Q ⟨⟩ S
    | _ => False) := (Eq.refl _).trans rfl
@[simp] theorem w_block (i : Nat) (b : MC) {g} : w_ P c (.block i b) Q g S = w_ P c b (blockQ i Q) ⟨⟩ S := (Eq.refl _).trans rfl
@[simp] theorem w_loop (b : MC) {g} : w_ P c (.loop b) Q g S = lw_ P c b Q ⟨⟩ S := (Eq.refl _).trans rfl
@[simp] theorem w_exit (i : Nat) {g} : w_ P c (.exit i) Q g S = Q (.exit i) S := (Eq.refl _).trans rfl
@[simp] theorem w_fzq (a : MC) {g} : w_ P c (.fzq a) Q g S = fzK S (fun S' => w_ P c a Q ⟨⟩ S') ⟨⟩ := (Eq.refl _).trans rfl
@[simp] theorem w_owq (a : MC) {g} : w_ P c (.owq a) Q g S = owK S (fun S' => w_ P c a Q ⟨⟩ S') ⟨⟩ := (Eq.refl _).trans rfl
@[simp] theorem w_ret {g} : w_ P c .ret Q g S = Q .ret S := (Eq.refl _).trans rfl
@[simp] theorem rO_nil (K : St → Prop) {g} : rO P [] K g S = K S := (Eq.refl _).trans rfl
@[simp] theorem rO_none (d : Option Nat) (op : MOp) (os : List MO) (K : St → Prop) {g} : rO P (⟨none, d, op⟩ :: os) K g S = eV P (fun v _ wr n => rO P os K ⟨⟩ (S.put d v wr n)) op ⟨⟩ S.get S.m S.n := (Eq.refl _).trans rfl
@[simp] theorem rO_some (t : Nat) (want : Bool) (d : Option Nat) (op : MOp) (os : List MO) (K : St → Prop) {g} : rO P (⟨some (t, want), d, op⟩ :: os) K g S = (match S.get t with
      | .c (.d (.bool b)) => gd b want (rO P (⟨none, d, op⟩ :: os) K ⟨⟩ (S.know t want)) (rO P os K ⟨⟩ ((S.know t (!want)).put d undefV [] S.n))
      | .c (.d (.sc (.tuple _))) => rO P os K ⟨⟩ (S.put d undefV [] S.n)
      | _ => False) := (Eq.refl _).trans rfl
@[simp] theorem rD_nil (fps : List FP) (K : St → List FP → Prop) {g} : rD P [] K g S fps = K S fps.reverse := (Eq.refl _).trans rfl
@[simp] theorem rD_none (d : Option Nat) (op : MOp) (os : List MO) (fps : List FP) (K : St → List FP → Prop) {g} : rD P (⟨none, d, op⟩ :: os) K g S fps = eV P (fun v rd wr n => rD P os K ⟨⟩ (S.put d v wr n) ((rd, wr.map (·.1)) :: fps)) op ⟨⟩ S.get S.m S.n := (Eq.refl _).trans rfl
@[simp] theorem rD_some (t : Nat) (want : Bool) (d : Option Nat) (op : MOp) (os : List MO) (fps : List FP) (K : St → List FP → Prop) {g} : rD P (⟨some (t, want), d, op⟩ :: os) K g S fps = (match S.get t with
      | .c (.d (.bool b)) => gd b want (rD P (⟨none, d, op⟩ :: os) K ⟨⟩ (S.know t want) fps) (rD P os K ⟨⟩ ((S.know t (!want)).put d undefV [] S.n) (([], []) :: fps))
      | .c (.d (.sc (.tuple _))) => rD P os K ⟨⟩ (S.put d undefV [] S.n) (([], []) :: fps)
      | _ => False) := (Eq.refl _).trans rfl
end

@[simp] theorem St.get_mk (t : List (Nat × AV)) (m : Hp) (n k : Nat) : St.get ⟨t, m, n⟩ k = look t k := (Eq.refl _).trans rfl
@[simp] theorem St.get_eta (t : List (Nat × AV)) (m : Hp) (n : Nat) : St.get ⟨t, m, n⟩ = look t := (Eq.refl _).trans rfl
@[simp] theorem St.put_some (t : List (Nat × AV)) (m : Hp) (n d : Nat) (v : AV) (wr : List (Nat × Blk)) (n' : Nat) : St.put ⟨t, m, n⟩ (some d) v wr n' = ⟨(d, v) :: t, wrs m wr, n'⟩ := (Eq.refl _).trans rfl
@[simp] theorem St.put_none (t : List (Nat × AV)) (m : Hp) (n : Nat) (v : AV) (wr : List (Nat × Blk)) (n' : Nat) : St.put ⟨t, m, n⟩ none v wr n' = ⟨t, wrs m wr, n'⟩ := (Eq.refl _).trans rfl
@[simp] theorem St.know_mk (t : List (Nat × AV)) (m : Hp) (n k : Nat) (b : Bool) : St.know ⟨t, m, n⟩ k b = ⟨(k, .c (.d (.bool b))) :: t, m, n⟩ := (Eq.refl _).trans rfl
@[simp] theorem look_nil (k : Nat) : look [] k = .c (.d .any) := (Eq.refl _).trans rfl
@[simp] theorem look_cons (j k : Nat) (v : AV) (t : List (Nat × AV)) : look ((j, v) :: t) k = if k = j then v else look t k := (Eq.refl _).trans rfl
@[simp] theorem X_t (get : Nat → AV) (k : Nat) : X get (.t k) = get k := (Eq.refl _).trans rfl
@[simp] theorem X_k (get : Nat → AV) (x : D) : X get (.k x) = .c (.d x) := (Eq.refl _).trans rfl
@[simp] theorem wrs_nil (m : Hp) : wrs m [] = m := (Eq.refl _).trans rfl
@[simp] theorem wrs_cons (m : Hp) (k : Nat) (v : Blk) (l : List (Nat × Blk)) : wrs m ((k, v) :: l) = wrs (upd m k v) l := (Eq.refl _).trans rfl
@[simp] theorem upd_at (m : Hp) (k : Nat) (v : Blk) (j : Nat) : upd m k v j = if j = k then v else m j := (Eq.refl _).trans rfl

@[simp ↓] theorem thenQ_normal (K : St → Prop) (Q : Exit → St → Prop) (S : St) : thenQ K Q .normal S = K S := (Eq.refl _).trans rfl
@[simp ↓] theorem thenQ_exit (K : St → Prop) (Q : Exit → St → Prop) (i : Nat) (S : St) : thenQ K Q (.exit i) S = Q (.exit i) S := (Eq.refl _).trans rfl
@[simp ↓] theorem thenQ_ret (K : St → Prop) (Q : Exit → St → Prop) (S : St) : thenQ K Q .ret S = Q .ret S := (Eq.refl _).trans rfl
@[simp ↓] theorem blockQ_normal (i : Nat) (Q : Exit → St → Prop) (S : St) : blockQ i Q .normal S = Q .normal S := (Eq.refl _).trans rfl
@[simp ↓] theorem blockQ_ret (i : Nat) (Q : Exit → St → Prop) (S : St) : blockQ i Q .ret S = Q .ret S := (Eq.refl _).trans rfl
@[simp ↓] theorem blockQ_exit (i j : Nat) (Q : Exit → St → Prop) (S : St) : blockQ i Q (.exit j) S = if j = i then Q .normal S else Q (.exit j) S := (Eq.refl _).trans rfl

@[simp] theorem undef_eq : (undef : Value) = .tuple #[] := rfl
attribute [simp] argT DV.av DV.avs toDV toDVs allD cellsC cellsD rowD rowC capsC undefV evI evS evB
attribute [simp] DV.er DV.ers splice
@[simp] theorem rens_comp (f : Nat → Nat) : AC.rens f ∘ List.map AC.d = List.map AC.d := by funext x; simp
@[simp] theorem lts_comp (n : Nat) : AC.lts n ∘ List.map AC.d = fun _ => true := by funext x; simp
@[simp] theorem D.er_int (k : IntKind) (n : Int) : (D.int k n).er = .int k n := rfl
@[simp] theorem D.er_bool (b : Bool) : (D.bool b).er = .bool b := rfl
@[simp] theorem D.er_str (b : ByteArray) : (D.str b).er = .str b := rfl
@[simp] theorem D.er_sl (x : Bool) (s : Nat) (es : List (List D)) : (D.sl x s es).er = .sl false s es := rfl
@[simp] theorem D.er_fn (f : Fn) (c : List D) : (D.fn f c).er = .fn f c := rfl
@[simp] theorem D.er_rp (cs : List D) (o : Nat) : (D.rp cs o).er = .rp cs o := rfl
@[simp] theorem D.er_sc (v : Value) : (D.sc v).er = .sc v := rfl
@[simp] theorem AC.one_d (d : D) : (AC.d d).one = d.one := rfl
@[simp] theorem AC.one_ptr (b o : Nat) : (AC.ptr b o).one = true := rfl
@[simp] theorem AC.one_ept (s b i o : Nat) : (AC.ept s b i o).one = true := rfl
@[simp] theorem AC.one_msl (s b o l : Nat) : (AC.msl s b o l).one = true := rfl
@[simp] theorem D.one_int (k : IntKind) (n : Int) : (D.int k n).one = true := rfl
@[simp] theorem D.one_bool (b : Bool) : (D.bool b).one = true := rfl
@[simp] theorem D.one_str (b : ByteArray) : (D.str b).one = true := rfl
@[simp] theorem D.one_sl (x : Bool) (s : Nat) (es : List (List D)) : (D.sl x s es).one = true := rfl
@[simp] theorem D.one_fn (f : Fn) (c : List D) : (D.fn f c).one = true := rfl
@[simp] theorem D.one_rp (cs : List D) (o : Nat) : (D.rp cs o).one = true := rfl
@[simp] theorem cut_all {α : Type} (cs : List α) (n : Nat) (h : cs.length = n) : cut cs 0 n = cs := by simp [cut, h]
theorem cut_part {α : Type} (cs : List α) (o n : Nat) (h : o ≠ 0) : cut cs o n = (cs.drop o).take n := by simp [cut, h]
@[simp] theorem put_all {α : Type} (cs l : List α) (h : l.length = cs.length) : put cs 0 l = l := by simp [put, h]
@[simp] theorem put_cons {α : Type} (c : α) (cs : List α) (o : Nat) (l : List α) : put (c :: cs) o l = if o = 0 ∧ l.length = (c :: cs).length then l else splice (c :: cs) o l := (Eq.refl _).trans rfl
theorem wrap_i64 {n : Int} (h1 : -9223372036854775808 ≤ n) (h2 : n ≤ 9223372036854775807) : IntKind.i64.wrap n = n := wrap_id (by simpa [IntKind.min, IntKind.bits, IntKind.signed] using h1) (by simpa [IntKind.max, IntKind.bits, IntKind.signed] using h2)
theorem i64_min : IntKind.i64.min = -9223372036854775808 := by simp [IntKind.min, IntKind.bits, IntKind.signed]
theorem i64_max : IntKind.i64.max = 9223372036854775807 := by simp [IntKind.max, IntKind.bits, IntKind.signed]
@[simp] theorem hpOf_nil (n : Nat) : hpOf [] n = .non := by simp [hpOf]
@[simp] theorem hpOf_zero (b : Blk) (bs : List Blk) : hpOf (b :: bs) 0 = b := by simp [hpOf]
@[simp] theorem hpOf_succ (b : Blk) (bs : List Blk) (n : Nat) : hpOf (b :: bs) (n + 1) = hpOf bs n := by simp [hpOf]
@[simp] theorem hd_eq (t : List (Nat × AV)) (bs : List Blk) : hd t bs = ⟨t, hpOf bs, bs.length⟩ := (Eq.refl _).trans rfl
attribute [simp] Match tAll mAll fOf AV.ren AV.lt AC.ren AC.lt AC.rens AC.lts AV.rens AV.lts Blk.ren Blk.lt
attribute [simp] fillC one? frzV frzVs frzC frzCs allDD

/-! what takes a continuation: under a tag, so that simp does not walk on under a binder -/
def ldD_ (ag : Bool) (sz : Nat) (cs : List D) (off : Nat) (K : AV → Prop) (_ : Tag K) : Prop := ldD ag sz cs off K
def ldC_ (ag : Bool) (sz : Nat) (cs : List AC) (off : Nat) (K : AV → Prop) (_ : Tag K) : Prop := ldC ag sz cs off K
def bnd_ (get : Nat → AV) (d : Nat) (K : Nat → Prop) (_ : Tag K) (o : Option MX) : Prop := bnd get d K o
def srcs_ (get : Nat → AV) (m : Hp) (s : Nat) (K : List (List AC) → List Nat → Prop) (_ : Tag K) (y : MX) : Prop := srcs get m s K y
def resK_ (S : St) (K : AV → Prop) (_ : Tag K) (r : MR) : Prop := resK S K r
def ressK_ (S : St) (rs : List MR) (K : List AV → Prop) (_ : Tag K) : Prop := ressK S rs K
@[simp] theorem ldD_t (sz : Nat) (cs : List D) (off : Nat) (K : AV → Prop) {g} : ldD_ true sz cs off K g = (off + sz ≤ cs.length ∧ K (.ag ((cut cs off sz).map .d))) := (Eq.refl _).trans rfl
@[simp] theorem ldD_f (sz : Nat) (cs : List D) (off : Nat) (K : AV → Prop) {g} : ldD_ false sz cs off K g = (match cs[off]? with | some c => K (.c (.d c)) | none => False) := (Eq.refl _).trans rfl
@[simp] theorem ldC_t (sz : Nat) (cs : List AC) (off : Nat) (K : AV → Prop) {g} : ldC_ true sz cs off K g = (off + sz ≤ cs.length ∧ K (.ag (cut cs off sz))) := (Eq.refl _).trans rfl
@[simp] theorem ldC_f (sz : Nat) (cs : List AC) (off : Nat) (K : AV → Prop) {g} : ldC_ false sz cs off K g = (match cs[off]? with | some c => K (.c c) | none => False) := (Eq.refl _).trans rfl
@[simp] theorem bnd_none (get : Nat → AV) (d : Nat) (K : Nat → Prop) {g} : bnd_ get d K g none = K d := (Eq.refl _).trans rfl
@[simp] theorem bnd_some (get : Nat → AV) (d : Nat) (K : Nat → Prop) {g} (x : MX) : bnd_ get d K g (some x) = (match X get x with | .c (.d (.int _ j)) => 0 ≤ j ∧ K j.toNat | _ => False) := (Eq.refl _).trans rfl
@[simp] theorem srcs_at (get : Nat → AV) (m : Hp) (s : Nat) (K : List (List AC) → List Nat → Prop) {g} (y : MX) : srcs_ get m s K g y = (match X get y with
  | .c (.d (.sl _ s' ys)) => s = s' ∧ K (ys.map (·.map .d)) []
  | .c (.msl s' b off len) => match m b with
    | .arr s'' es => s = s' ∧ s = s'' ∧ off + len ≤ es.length ∧ K ((es.drop off).take len) [b]
    | _ => False
  | _ => False) := (Eq.refl _).trans rfl
@[simp] theorem endQ_ret (rs : List MR) (v : DV) (S : St) : endQ rs v .ret S = ressK_ S rs (fun vs => (frzV S.m (one? vs)).map DV.er = some v) ⟨⟩ := (Eq.refl _).trans rfl
@[simp] theorem endQ_normal (rs : List MR) (v : DV) (S : St) : endQ rs v .normal S = ressK_ S rs (fun vs => (frzV S.m (one? vs)).map DV.er = some v) ⟨⟩ := (Eq.refl _).trans rfl
@[simp] theorem endQ_exit (rs : List MR) (v : DV) (i : Nat) (S : St) : endQ rs v (.exit i) S = False := (Eq.refl _).trans rfl
@[simp] theorem resK_tmp (S : St) (K : AV → Prop) {g} (t : Nat) : resK_ S K g (.tmp t) = K (S.get t) := (Eq.refl _).trans rfl
@[simp] theorem resK_cell (S : St) (K : AV → Prop) {g} (t : Nat) (ag : Bool) (sz : Nat) : resK_ S K g (.cell t ag sz) = (match S.get t with
    | .c (.d (.rp cs off)) => ldD_ ag sz cs off K ⟨⟩
    | .c (.ptr b off) => match S.m b with
      | .box cs => ldC_ ag sz cs off K ⟨⟩
      | _ => False
    | _ => False) := (Eq.refl _).trans rfl
@[simp] theorem ressK_nil (S : St) (K : List AV → Prop) {g} : ressK_ S [] K g = K [] := (Eq.refl _).trans rfl
@[simp] theorem ressK_cons (S : St) (r : MR) (rs : List MR) (K : List AV → Prop) {g} : ressK_ S (r :: rs) K g = resK_ S (fun v => ressK_ S rs (fun vs => K (v :: vs)) ⟨⟩) ⟨⟩ r := (Eq.refl _).trans rfl

section
variable {P : Program} {get : Nat → AV} {m : Hp} {n : Nat} {K : AV → List Nat → List (Nat × Blk) → Nat → Prop}
@[simp] theorem ev_mv (x : MX) {g} : eV P K (.mv x) g get m n = K (X get x) [] [] n := (Eq.refl _).trans rfl
@[simp] theorem ev_pick (c a b : MX) {g} : eV P K (.pick c a b) g get m n = match X get c with
    | .c (.d (.bool t)) => gd t true (K (X get a) [] [] n) (K (X get b) [] [] n)
    | _ => False := (Eq.refl _).trans rfl
@[simp] theorem ev_binI (op : BinOp) (x : MX) (y : MX) {g} : eV P K (.binI op x y) g get m n = (match X get x, X get y with
    | .c (.d (.int k a)), .c (.d (.int k' b)) => k = k' ∧ (match evI op k a b with | some d => K (.c (.d d)) [] [] n | none => False)
    | _, _ => False) := (Eq.refl _).trans rfl
@[simp] theorem ev_divI (op : BinOp) (x : MX) (y : MX) {g} : eV P K (.divI op x y) g get m n = (match X get x, X get y with
    | .c (.d (.int k a)), .c (.d (.int k' b)) => k = k' ∧ b ≠ 0 ∧ (match (generalizing := false) op with | .quo => K (.c (.d (.int k (k.wrap (a.tdiv b))))) [] [] n | .rem => K (.c (.d (.int k (a.tmod b)))) [] [] n | _ => False)
    | _, _ => False) := (Eq.refl _).trans rfl
@[simp] theorem ev_binS (op : BinOp) (x : MX) (y : MX) {g} : eV P K (.binS op x y) g get m n = (match X get x, X get y with
    | .c (.d (.str a)), .c (.d (.str b)) => (match evS op a b with | some d => K (.c (.d d)) [] [] n | none => False)
    | _, _ => False) := (Eq.refl _).trans rfl
@[simp] theorem ev_cat (x : MX) (y : MX) {g} : eV P K (.cat x y) g get m n = (match X get x, X get y with
    | .c (.d (.str a)), .c (.d (.str b)) => a.size + b.size ≤ lenMax ∧ K (.c (.d (.str (a ++ b)))) [] [] n
    | _, _ => False) := (Eq.refl _).trans rfl
@[simp] theorem ev_binB (op : BinOp) (x : MX) (y : MX) {g} : eV P K (.binB op x y) g get m n = (match X get x, X get y with
    | .c (.d (.bool a)), .c (.d (.bool b)) => (match evB op a b with | some d => K (.c (.d d)) [] [] n | none => False)
    | _, _ => False) := (Eq.refl _).trans rfl
@[simp] theorem ev_not (x : MX) {g} : eV P K (.not x) g get m n = (match X get x with
    | .c (.d (.bool a)) => K (.c (.d (.bool (!a)))) [] [] n
    | _ => False) := (Eq.refl _).trans rfl
@[simp] theorem ev_neg (x : MX) {g} : eV P K (.neg x) g get m n = (match X get x with
    | .c (.d (.int k a)) => K (.c (.d (.int k (k.wrap (0 - a))))) [] [] n
    | _ => False) := (Eq.refl _).trans rfl
@[simp] theorem ev_convI (k : IntKind) (x : MX) {g} : eV P K (.convI k x) g get m n = (match X get x with
    | .c (.d (.int _ a)) => K (.c (.d (.int k (k.wrap a)))) [] [] n
    | _ => False) := (Eq.refl _).trans rfl
@[simp] theorem ev_boxP (x : MX) {g} : eV P K (.boxP x) g get m n = (match cellsD (X get x) with
    | some ds => K (.c (.d (.rp ds 0))) [] [] n
    | none => False) := (Eq.refl _).trans rfl
@[simp] theorem ev_boxM (x : MX) {g} : eV P K (.boxM x) g get m n = (match cellsC (X get x) with
    | some cs => m n = .non ∧ K (.c (.ptr n 0)) [] [(n, .box cs)] (n + 1)
    | none => False) := (Eq.refl _).trans rfl
@[simp] theorem ev_alloc (z : List D) {g} : eV P K (.alloc z) g get m n = (m n = .non ∧ K (.c (.ptr n 0)) [] [(n, .box (z.map .d))] (n + 1)) := (Eq.refl _).trans rfl
@[simp] theorem ev_build (z : List D) (ps : List (Nat × Nat × MX)) {g} : eV P K (.build z ps) g get m n = (match fillC get (z.map .d) ps with
    | some cs => K (.ag cs) [] [] n
    | none => False) := (Eq.refl _).trans rfl
@[simp] theorem ev_buildSl (s : Nat) (xs : List MX) {g} : eV P K (.buildSl s xs) g get m n = (match rowD get s xs with
    | some es => K (.c (.d (.sl true s es))) [] [] n
    | none => False) := (Eq.refl _).trans rfl
@[simp] theorem ev_buildSlM (s : Nat) (xs : List MX) {g} : eV P K (.buildSlM s xs) g get m n = (match rowC get s xs with
    | some es => m n = .non ∧ K (.c (.msl s n 0 xs.length)) [] [(n, .arr s es)] (n + 1)
    | none => False) := (Eq.refl _).trans rfl
@[simp] theorem ev_load (ag : Bool) (sz : Nat) (x : MX) {g} : eV P K (.load ag sz x) g get m n = (match X get x with
    | .c (.d (.rp cs off)) => ldD_ ag sz cs off (fun v => K v [] [] n) ⟨⟩
    | .c (.ptr b off) => match m b with
      | .box cs => ldC_ ag sz cs off (fun v => K v [b] [] n) ⟨⟩
      | _ => False
    | .c (.ept s b i off) => match m b with
      | .arr s' es => s = s' ∧ (match es[i]? with | some e => ldC_ ag sz e off (fun v => K v [b] [] n) ⟨⟩ | none => False)
      | _ => False
    | _ => False) := (Eq.refl _).trans rfl
@[simp] theorem ev_store (sz : Nat) (a : MX) (v : MX) {g} : eV P K (.store sz a v) g get m n = (match X get a, cellsC (X get v) with
    | .c (.ptr b off), some l => match m b with
      | .box cs => l.length = sz ∧ off + sz ≤ cs.length ∧ K (.c (.d .any)) [] [(b, .box (put cs off l))] n
      | _ => False
    | .c (.ept s b i off), some l => match m b with
      | .arr s' es => s = s' ∧ l.length = sz ∧ off + sz ≤ s ∧ (match es[i]? with | some e => K (.c (.d .any)) [] [(b, .arr s (es.set i (put e off l)))] n | none => False)
      | _ => False
    | _, _ => False) := (Eq.refl _).trans rfl
@[simp] theorem ev_faddr (off : Nat) (x : MX) {g} : eV P K (.faddr off x) g get m n = (match X get x with
    | .c (.ptr b o) => K (.c (.ptr b (o + off))) [] [] n
    | .c (.ept s b i o) => K (.c (.ept s b i (o + off))) [] [] n
    | .c (.d (.rp cs o)) => K (.c (.d (.rp cs (o + off)))) [] [] n
    | _ => False) := (Eq.refl _).trans rfl
@[simp] theorem ev_field (ag : Bool) (off : Nat) (sz : Nat) (x : MX) {g} : eV P K (.field ag off sz x) g get m n = (match X get x with
    | .ag cs => ldC_ ag sz cs off (fun v => K v [] [] n) ⟨⟩
    | _ => False) := (Eq.refl _).trans rfl
@[simp] theorem ev_iaddrS (s : Nat) (x : MX) (i : MX) {g} : eV P K (.iaddrS s x i) g get m n = (match X get x, X get i with
    | .c (.d (.sl _ s' es)), .c (.d (.int _ j)) => s = s' ∧ 0 ≤ j ∧ (match es[j.toNat]? with | some e => K (.c (.d (.rp e 0))) [] [] n | none => False)
    | .c (.msl s' b off len), .c (.d (.int _ j)) => s = s' ∧ 0 ≤ j ∧ j < len ∧ K (.c (.ept s b (off + j.toNat) 0)) [] [] n
    | _, _ => False) := (Eq.refl _).trans rfl
@[simp] theorem ev_iaddrA (len : Nat) (s : Nat) (x : MX) (i : MX) {g} : eV P K (.iaddrA len s x i) g get m n = (match X get x, X get i with
    | .c (.ptr b o), .c (.d (.int _ j)) => 0 ≤ j ∧ j < len ∧ K (.c (.ptr b (o + j.toNat * s))) [] [] n
    | .c (.ept s' b i' o), .c (.d (.int _ j)) => 0 ≤ j ∧ j < len ∧ K (.c (.ept s' b i' (o + j.toNat * s))) [] [] n
    | .c (.d (.rp cs o)), .c (.d (.int _ j)) => 0 ≤ j ∧ j < len ∧ K (.c (.d (.rp cs (o + j.toNat * s)))) [] [] n
    | _, _ => False) := (Eq.refl _).trans rfl
@[simp] theorem ev_idxA (ag : Bool) (len : Nat) (s : Nat) (x : MX) (i : MX) {g} : eV P K (.idxA ag len s x i) g get m n = (match X get x, X get i with
    | .ag cs, .c (.d (.int _ j)) => 0 ≤ j ∧ j < len ∧ ldC_ ag s cs (j.toNat * s) (fun v => K v [] [] n) ⟨⟩
    | _, _ => False) := (Eq.refl _).trans rfl
@[simp] theorem ev_idxS (x : MX) (i : MX) {g} : eV P K (.idxS x i) g get m n = (match X get x, X get i with
    | .c (.d (.str t)), .c (.d (.int _ j)) => 0 ≤ j ∧ (match t.data.toList[j.toNat]? with | some b => K (.c (.d (.int .u8 b.toNat))) [] [] n | none => False)
    | _, _ => False) := (Eq.refl _).trans rfl
@[simp] theorem ev_len (x : MX) {g} : eV P K (.len x) g get m n = (match X get x with
    | .c (.d (.sl _ _ es)) => K (.c (.d (.int .i64 es.length))) [] [] n
    | .c (.msl _ b off l) => match m b with
      | .arr _ es => off + l ≤ es.length ∧ K (.c (.d (.int .i64 l))) [b] [] n
      | _ => False
    | _ => False) := (Eq.refl _).trans rfl
@[simp] theorem ev_lenS (x : MX) {g} : eV P K (.lenS x) g get m n = (match X get x with
    | .c (.d (.str t)) => K (.c (.d (.int .i64 t.size))) [] [] n
    | _ => False) := (Eq.refl _).trans rfl
@[simp] theorem ev_nilck (x : MX) {g} : eV P K (.nilck x) g get m n = (match X get x with
    | .c (.ptr b o) => K (.c (.ptr b o)) [] [] n
    | .c (.ept s b i o) => K (.c (.ept s b i o)) [] [] n
    | .c (.d (.rp cs o)) => K (.c (.d (.rp cs o))) [] [] n
    | _ => False) := (Eq.refl _).trans rfl
@[simp] theorem ev_extract (x : MX) (i : Nat) {g} : eV P K (.extract x i) g get m n = (match X get x with
    | .tup vs => match vs[i]? with
      | some v => K v [] [] n
      | none => False
    | _ => False) := (Eq.refl _).trans rfl
@[simp] theorem ev_slice (s : Nat) (x : MX) (lo : Option MX) (hi : Option MX) {g} : eV P K (.slice s x lo hi) g get m n = (match X get x with
    | .c (.d (.sl e s' es)) => s = s' ∧ bnd_ get es.length (fun h => bnd_ get 0 (fun l => l ≤ h ∧ h ≤ es.length ∧ K (.c (.d (.sl (e && hi.isNone) s ((es.take h).drop l)))) [] [] n) ⟨⟩ lo) ⟨⟩ hi
    | .c (.msl s' b off len) => s = s' ∧ bnd_ get len (fun h => bnd_ get 0 (fun l => l ≤ h ∧ h ≤ len ∧ K (.c (.msl s b (off + l) (h - l))) [] [] n) ⟨⟩ lo) ⟨⟩ hi
    | _ => False) := (Eq.refl _).trans rfl
@[simp] theorem ev_slice00 (s : Nat) (x : MX) {g} : eV P K (.slice00 s x) g get m n = (match X get x with
    | .c (.d (.sl e s' es)) => K (.c (.d (.sl true s []))) [] [] n
    | _ => False) := (Eq.refl _).trans rfl
@[simp] theorem ev_sliceS (x : MX) (lo : Option MX) (hi : Option MX) {g} : eV P K (.sliceS x lo hi) g get m n = (match X get x with
    | .c (.d (.str t)) => bnd_ get t.size (fun h => bnd_ get 0 (fun l => l ≤ h ∧ h ≤ t.size ∧ K (.c (.d (.str (t.extract l h)))) [] [] n) ⟨⟩ lo) ⟨⟩ hi
    | _ => False) := (Eq.refl _).trans rfl
@[simp] theorem ev_append (s : Nat) (bytes : Nat) (x : MX) (y : MX) {g} : eV P K (.append s bytes x y) g get m n = (match X get x with
    | .c (.msl s' b off len) => match m b with
      | .arr s'' es => s = s' ∧ s = s'' ∧ off = 0 ∧ len ≤ es.length ∧ m n = .non ∧ srcs_ get m s (fun ys rd => (len + ys.length) * bytes ≤ 70368744177664 ∧ (rd = [] ∨ rd = [b] ∨ b ∉ rd) ∧
          K (.c (.msl s n 0 (len + ys.length))) rd [(b, .dead), (n, .arr s (es.take len ++ ys))] (n + 1)) ⟨⟩ y
      | _ => False
    | .c (.d (.sl true s' [])) => m n = .non ∧ srcs_ get m s (fun ys rd => ys.length * bytes ≤ 70368744177664 ∧ K (.c (.msl s n 0 ys.length)) rd [(n, .arr s ys)] (n + 1)) ⟨⟩ y
    | .c (.d (.sl true s' (e :: es))) => s = s' ∧ m n = .non ∧ srcs_ get m s (fun ys rd => ys ≠ [] ∧ ((e :: es).length + ys.length) * bytes ≤ 70368744177664 ∧ K (.c (.msl s n 0 ((e :: es).length + ys.length))) rd [(n, .arr s ((e :: es).map (·.map .d) ++ ys))] (n + 1)) ⟨⟩ y
    | _ => False) := (Eq.refl _).trans rfl
@[simp] theorem ev_mkfn (f : FuncId) (caps : List MX) {g} : eV P K (.mkfn f caps) g get m n = (match capsC get caps with
    | some cs => match allD cs with
      | some ds => K (.c (.d (.fn (.func f) ds))) [] [] n
      | none => K (.c (.fn (.func f) cs)) [] [] n
    | none => False) := (Eq.refl _).trans rfl
@[simp] theorem ev_call (f : FuncId) (xs : List MX) {g} : eV P K (.call f xs) g get m n = (match toDVs (xs.map (X get)) with
    | some ds => callK P f ds (fun v => K v.av [] [] n) ⟨⟩
    | none => False) := (Eq.refl _).trans rfl
@[simp] theorem ev_calld (x : MX) (xs : List MX) {g} : eV P K (.calld x xs) g get m n = (match X get x, toDVs (xs.map (X get)) with
    | .c (.d (.fn (.func f) caps)), some ds => callK P f (ds ++ caps.map .one) (fun v => K v.av [] [] n) ⟨⟩
    | _, _ => False) := (Eq.refl _).trans rfl
@[simp] theorem ev_minI (mx : Bool) (x y : MX) {g} : eV P K (.minI mx x y) g get m n = (match X get x, X get y with
    | .c (.d (.int k a)), .c (.d (.int k' b)) => k = k' ∧ K (.c (.d (.int k (mmI mx a b)))) [] [] n
    | _, _ => False) := (Eq.refl _).trans rfl
@[simp] theorem ev_isNilP (ne : Bool) (x : MX) {g} : eV P K (.isNilP ne x) g get m n = (match X get x with
    | .c (.d (.sc (.pointer none))) => K (.c (.d (.bool !ne))) [] [] n
    | .c (.d (.rp _ _)) => K (.c (.d (.bool ne))) [] [] n
    | _ => False) := (Eq.refl _).trans rfl
@[simp] theorem ev_isNil (ne : Bool) (x : MX) {g} : eV P K (.isNil ne x) g get m n = (match X get x with
    | .c (.d (.sl _ _ (_ :: _))) => K (.c (.d (.bool ne))) [] [] n
    | .c (.d (.sl _ _ [])) => K (.c (.op isBoolV)) [] [] n
    | _ => False) := (Eq.refl _).trans rfl
@[simp] theorem ev_cmpS (f : FuncId) (x : MX) (y : MX) {g} : eV P K (.cmpS f x y) g get m n = (match X get x, X get y with
    | .c (.d (.str a)), .c (.d (.str b)) => K (.c (.d (.int .i64 (Lib.compareBytes a.data.toList b.data.toList)))) [] [] n
    | _, _ => False) := (Eq.refl _).trans rfl
@[simp] theorem ev_mkmap  {g} : eV P K (.mkmap) g get m n = (m n = .non ∧ K (.c (.map n)) [] [(n, .map [])] (n + 1)) := (Eq.refl _).trans rfl
@[simp] theorem ev_mlook (kk : Nat) (ok ag : Bool) (z : List D) (x k : MX) {g} : eV P K (.mlook kk ok ag z x k) g get m n = (match X get x, X get k with
    | .c (.map b), .c (.d d) => match m b with
      | .map es => match mfind kk d es 0 with
        | some (some (_, v)) => K (if ok then .tup [v, .c (.d (.bool true))] else v) [b] [] n
        | some none => K (if ok then .tup [aval ag z, .c (.d (.bool false))] else aval ag z) [b] [] n
        | none => False
      | _ => False
    | _, _ => False) := (Eq.refl _).trans rfl
@[simp] theorem ev_mset (kk : Nat) (x k v : MX) {g} : eV P K (.mset kk x k v) g get m n = (match X get x, X get k with
    | .c (.map b), .c (.d d) => match m b with
      | .map es => match mfind kk d es 0 with
        | some (some (i, _)) => K (.c (.d .any)) [] [(b, .map (es.set i (d, X get v)))] n
        | some none => K (.c (.d .any)) [] [(b, .map (es ++ [(d, X get v)]))] n
        | none => False
      | _ => False
    | _, _ => False) := (Eq.refl _).trans rfl
@[simp] theorem ev_mdel (kk : Nat) (x k : MX) {g} : eV P K (.mdel kk x k) g get m n = (match X get x, X get k with
    | .c (.map b), .c (.d d) => match m b with
      | .map es => match mfind kk d es 0 with
        | some (some (i, _)) => K (.tup []) [] [(b, .map (es.eraseIdx i))] n
        | some none => K (.tup []) [] [(b, .map es)] n
        | none => False
      | _ => False
    | _, _ => False) := (Eq.refl _).trans rfl
@[simp] theorem ev_mlen (x : MX) {g} : eV P K (.mlen x) g get m n = (match X get x with
    | .c (.map b) => match m b with
      | .map es => es.length ≤ lenMax ∧ K (.c (.d (.int .i64 es.length))) [b] [] n
      | _ => False
    | _ => False) := (Eq.refl _).trans rfl
@[simp] theorem ev_mksl (z : List D) (bytes : Nat) (x : MX) {g} : eV P K (.mksl z bytes x) g get m n = (match X get x with
    | .c (.d (.int .i64 j)) => 0 ≤ j ∧ j * bytes ≤ 70368744177664 ∧ K (.c (.d (.sl true z.length (List.replicate j.toNat z)))) [] [] n
    | _ => False) := (Eq.refl _).trans rfl
@[simp] theorem ev_mkslM (z : List D) (bytes : Nat) (x y : MX) {g} : eV P K (.mkslM z bytes x y) g get m n = (match X get x, X get y with
    | .c (.d (.int .i64 j)), .c (.d (.int .i64 l)) => 0 ≤ j ∧ j ≤ l ∧ l * bytes ≤ 70368744177664 ∧ m n = .non ∧ K (.c (.msl z.length n 0 j.toNat)) [] [(n, .arr z.length ((List.replicate j.toNat z).map (·.map .d)))] (n + 1)
    | _, _ => False) := (Eq.refl _).trans rfl
@[simp] theorem ev_eqAg (ne : Bool) (ks : List Nat) (x y : MX) {g} : eV P K (.eqAg ne ks x y) g get m n = (match X get x, X get y with
    | .ag cs, .ag cs' => match allD cs, allD cs' with
      | some a, some b => match eqL ks a b with
        | some t => K (.c (.d (.bool (t ^^ ne)))) [] [] n
        | none => False
      | _, _ => False
    | _, _ => False) := (Eq.refl _).trans rfl
end
attribute [simp] mfind kEq aval eqL
end Go.Abs
