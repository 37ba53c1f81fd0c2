/- Texts of ours, joined and written short by a program of ours. -/
import Derived.Test.YtnefbdgcccgodaaGreatJ04
set_option linter.unusedVariables false
set_option linter.unusedSimpArgs false
namespace Go.Abs
inductive MC where
 | skip
 | reg (os : List MO)
 | regd (bef : List Nat) (os : List MO)
 | seq (a b : MC)
 | cond (x : MX) (a b : MC)
 | block (id : Nat) (b : MC)
 | loop (b : MC)
 | exit (id : Nat)
 | ret
 | fzq (a : MC)
 | owq (a : MC)
def chkC (P : Program) (N : Nat) : MC -> Code -> Bool
 | .skip, .skip => true
 | .reg os, .region _ ops d => !d && zbp P N ops os ops.toList
 | .regd bef os, .region _ ops d => d && zbp P N ops os ops.toList && zlj ops bef && znm ops bef
 | .seq a b, .seq a' b' => chkC P N a a' && chkC P N b b'
 | .cond x a b, .cond o a' b' => chkX x o && chkC P N a a' && chkC P N b b'
 | .block i b, .block i' b' => i == i' && chkC P N b b'
 | .loop b, .loop b' => chkC P N b b'
 | .exit i, .exit i' => i == i'
 | .ret, .ret => true
 | .fzq a, c => chkC P N a c
 | .owq a, c => chkC P N a c
 | _, _ => false
def AW (P : Program) (c : Ctx) (mc : MC) (Q : Exit -> St -> Prop) (S : St) : Prop :=
 ∀ code : Code, chkC P c.N mc code = true -> ∀ (a : Act) (w : World), Rel P c S.get S.m a w -> code.wp P (fun e a' w' => ∃ S' : St, Rel P c S'.get S'.m a' w' /\ Q e S') a w
def thenQ (K : St -> Prop) (Q : Exit -> St -> Prop) : Exit -> St -> Prop
 | .normal, S => K S
 | e, S => Q e S
def blockQ (id : Nat) (Q : Exit -> St -> Prop) : Exit -> St -> Prop
 | .exit i, S => if i = id then Q .normal S else Q (.exit i) S
 | e, S => Q e S
section
variable {P : Program} {c : Ctx} {Q : Exit -> St -> Prop} {S : St}
theorem AW.mono {mc : MC} {Q' : Exit -> St -> Prop} (h : AW P c mc Q S) (hq : ∀ e S, Q e S -> Q' e S) : AW P c mc Q' S := fun code hc a w r =>
 wp_mono (h code hc a w r) fun e a' w' ⟨S', r', q⟩ => ⟨S', r', hq e S' q⟩
theorem AW.skip (h : Q .normal S) : AW P c .skip Q S := by
 intro code hc a w r
 cases code <;> simp [chkC] at hc
 exact wp_skip ⟨S, r, h⟩
theorem AW.exit {id : Nat} (h : Q (.exit id) S) : AW P c (.exit id) Q S := by
 intro code hc a w r
 cases code <;> simp [chkC] at hc
 subst hc
 exact wp_exit ⟨S, r, h⟩
theorem AW.ret (h : Q .ret S) : AW P c .ret Q S := by
 intro code hc a w r
 cases code <;> simp [chkC] at hc
 exact wp_ret ⟨S, r, h⟩
theorem AW.seq {x y : MC} (h : AW P c x (thenQ (AW P c y Q) Q) S) : AW P c (.seq x y) Q S := by
 intro code hc a w r
 cases code with
 | seq x' y' =>
  simp only [chkC, Bool.and_eq_true] at hc
  refine wp_seq (wp_mono (h x' hc.1 a w r) fun e a' w' ⟨S', r', q⟩ => ?_)
  cases e with
  | normal => exact q y' hc.2 a' w' r'
  | _ => exact ⟨S', r', q⟩
 | _ => simp [chkC] at hc
theorem AW.cond {x : MX} {a b : MC} {t : Bool} (e : X S.get x = .c (.d (.bool t))) (h1 : t = true -> AW P c a Q S) (h2 : t = false -> AW P c b Q S) : AW P c (.cond x a b) Q S := by
 intro code hc ac w r
 cases code with
 | cond o a' b' =>
  simp only [chkC, Bool.and_eq_true] at hc
  obtain ⟨ph, ρ, H, S0, e0, hg⟩ := r.ex
  have r1 := zan hc.1.1 (ph := ph) (ρ := ρ) (get := S.get) (a := ac) fun k _ => hg k
  rw [e] at r1
  simp only [RepV, RepC, RepD] at r1
  exact wp_cond_split r1 (fun ht => h1 ht a' hc.1.2 ac w r) (fun ht => h2 ht b' hc.2 ac w r)
 | _ => simp [chkC] at hc
theorem AW.condU {x : MX} {a b : MC} {q : Value -> Prop} (e : X S.get x = .c (.op q)) (hq : ∀ v, q v -> zeJ v) (h1 : AW P c a Q S) (h2 : AW P c b Q S) : AW P c (.cond x a b) Q S := by
 intro code hc ac w r
 cases code with
 | cond o a' b' =>
  simp only [chkC, Bool.and_eq_true] at hc
  obtain ⟨ph, ρ, H, S0, e0, hg⟩ := r.ex
  have r1 := zan hc.1.1 (ph := ph) (ρ := ρ) (get := S.get) (a := ac) fun k _ => hg k
  rw [e] at r1
  simp only [RepV, RepC] at r1
  obtain ⟨t, r1⟩ := hq _ r1
  exact wp_cond_split r1 (fun ht => h1 a' hc.1.2 ac w r) (fun ht => h2 b' hc.2 ac w r)
 | _ => simp [chkC] at hc
theorem AW.block {id : Nat} {b : MC} (h : AW P c b (blockQ id Q) S) : AW P c (.block id b) Q S := by
 intro code hc a w r
 cases code with
 | block id' b' =>
  simp only [chkC, Bool.and_eq_true, beq_iff_eq] at hc
  obtain ⟨h1, h2⟩ := hc
  subst h1
  refine wp_block (wp_mono (h b' h2 a w r) fun e a' w' ⟨S', r', q⟩ => ?_)
  cases e with
  | exit i =>
   simp only [blockQ] at q
   simp only [Exit.inBlock]
   split
   ·rename_i hh; rw [if_pos hh] at q; exact ⟨S', r', q⟩
   ·rename_i hh; rw [if_neg hh] at q; exact ⟨S', r', q⟩
  | _ => exact ⟨S', r', q⟩
 | _ => simp [chkC] at hc
theorem AW.reg {os : List MO} (h : runO P os S (fun S' => Q .normal S')) : AW P c (.reg os) Q S := by
 intro code hc a w r
 cases code with
 | region id ops d =>
  simp only [chkC, Bool.and_eq_true, Bool.not_eq_true'] at hc
  obtain ⟨h1, h2⟩ := hc
  subst h1
  refine wp_region ?_
  have hl := zgD h2
  have := zlG (Q := fun e a' w' => ∃ S' : St, Rel P c S'.get S'.m a' w' /\ Q e S') (K := fun S' => Q .normal S') (fun S a w r k => ⟨S, r, k⟩) (i := 0) h2 (fun j o hj => by simpa using hj) h r
  rw [List.range_eq_range']
  simpa using this
 | _ => simp [chkC] at hc
theorem AW.regd {bef : List Nat} {os : List MO} (hm : P.follows .mixedOrders = true) (h : runD P os S [] (fun S' fps => zkb bef fps = true /\ Q .normal S')) : AW P c (.regd bef os) Q S := by
 intro code hc a w r
 cases code with
 | region id ops d =>
  simp only [chkC, Bool.and_eq_true] at hc
  obtain ⟨⟨⟨h1, h2⟩, h3⟩, h4⟩ := hc
  subst h1
  obtain ⟨es, S', t1, t2, t3, t4⟩ := zpp h2 h
  simp only [List.reverse_nil, List.nil_append] at t4
  refine wp_region_any hm ?_
  have none : ∀ {β : Type} (l : List (List (Nat × β))) (i : Nat) (f : Nat -> β), selF (lst (Array.replicate ops.size false)) i f l = f := by
   intro β l
   induction l with
   | nil => intro i f; rfl
   | cons x l ih =>
    intro i f
    have : lst (Array.replicate ops.size false) i = false := by
     unfold lst
     simp only [Array.getD_eq_getD_getElem?, Array.getElem?_replicate]
     split <;> rfl
    simp only [selF, this]
    exact ih _ _
  refine zrE h2 t1 h3 h4 t4.1 (fun a w r => ⟨S', by rw [t2, t3]; exact r, t4.2⟩) ops.size _ a _ (by simp) ?_ (fun j i hj _ _ => ?_) ?_
  ·have : cnt (Array.replicate ops.size false) = 0 := by
    unfold cnt
    simp
   omega
  ·unfold lst at hj
   simp only [Array.getD_eq_getD_getElem?, Array.getElem?_replicate] at hj
   split at hj <;> simp at hj
  ·rw [none, none]
   obtain ⟨ph, ρ, H, S0, e0, hg⟩ := r.ex
   exact ⟨r.gnd, r.defers, r.size, ph, ρ, H, S0, ⟨e0.1, e0.2.1, e0.2.2⟩, hg⟩
 | _ => simp [chkC] at hc
def hd (t : List (Nat × AV)) (bs : List Blk) : St := ⟨t, hpOf bs, bs.length⟩
def tAll (S : St) (l : List Nat) : List (Nat × AV) -> Prop
 | [] => True
 | (k, v) :: t => (S.get k = v.ren (fOf l) /\ v.lt l.length = true) /\ tAll S l t
def mAll (S : St) (l : List Nat) : List Nat -> List Blk -> Prop
 | [], [] => True
 | j :: js, b :: bs => (S.m j = b.ren (fOf l) /\ b.lt l.length = true) /\ mAll S l js bs
 | _, _ => False
def Match (l : List Nat) (S : St) (t : List (Nat × AV)) (bs : List Blk) : Prop := l.Nodup /\ tAll S l t /\ mAll S l l bs
theorem zmi {S : St} {l : List Nat} : ∀ {t : List (Nat × AV)}, tAll S l t -> ∀ k, look t k = .c (.d .any) \/ (S.get k = (look t k).ren (fOf l) /\ (look t k).lt l.length = true)
 | [], _, k => .inl rfl
 | (j, v) :: t, h, k => by
  simp only [tAll] at h
  simp only [look]
  split
  ·rename_i e; subst e; exact .inr h.1
  ·exact zmi h.2 k
theorem zpC {S : St} {l : List Nat} : ∀ {js : List Nat} {bs : List Blk}, mAll S l js bs -> js.length = bs.length /\ ∀ i, i < js.length -> S.m (js.getD i 0) = (bs.getD i .non).ren (fOf l) /\ (bs.getD i .non).lt l.length = true
 | [], [], _ => ⟨rfl, fun i hi => by simp at hi⟩
 | [], _ :: _, h => by simp [mAll] at h
 | _ :: _, [], h => by simp [mAll] at h
 | j :: js, b :: bs, h => by
  simp only [mAll] at h
  obtain ⟨h1, h2⟩ := zpC h.2
  refine ⟨by simp [h1], fun i hi => ?_⟩
  cases i with
  | zero => simpa using h.1
  | succ i => simpa using h2 i (by simpa using hi)
def Ctx.pure (_ : Ctx) : Prop := True
theorem Rel.view (hp : c.pure) {l : List Nat} {S : St} {t : List (Nat × AV)} {bs : List Blk} {a : Act} {w : World} (hm : Match l S t bs) (r : Rel P c S.get S.m a w) : Rel P c (hd t bs).get (hd t bs).m a w := by
 obtain ⟨hnd, ht, hb⟩ := hm
 obtain ⟨hlen, hb⟩ := zpC hb
 obtain ⟨ph, ρ, H, S0, e0, hg⟩ := r.ex
 have at_ : ∀ b, b < l.length -> S.m (fOf l b) = (hpOf bs b).ren (fOf l) /\ (hpOf bs b).lt l.length = true := fun b hbl => hb b hbl
 have inj : ∀ b c, b < l.length -> c < l.length -> fOf l b = fOf l c -> b = c := by
  intro b c h1 h2 e
  unfold fOf at e
  rw [List.getD_eq_getElem?_getD, List.getD_eq_getElem?_getD, List.getElem?_eq_getElem h1, List.getElem?_eq_getElem h2] at e
  simp only [Option.getD_some] at e
  exact (List.getElem?_inj h1 hnd).1 (by rw [List.getElem?_eq_getElem h1, List.getElem?_eq_getElem h2, e])
 have beyond : ∀ b, ¬ b < l.length -> hpOf bs b = .non := by
  intro b hb'
  unfold hpOf
  rw [List.getD_eq_getElem?_getD, List.getElem?_eq_none (by omega)]
  rfl
 have rs : ∀ {b : Nat} {p : Nat × Nat}, rmR (fOf l) l.length ρ b = some p -> b < l.length /\ ρ (fOf l b) = some p := by
  intro b p h
  unfold rmR at h
  split at h
  ·exact ⟨by assumption, h⟩
  ·cases h
 refine ⟨r.gnd, r.defers, r.size, ph, rmR (fOf l) l.length ρ, ⟨H.pers, ?_, ?_, ?_, ?_⟩, ⟨S0.hle, S0.hlow, S0.size, S0.frame, ?_⟩, e0, fun k => ?_⟩
 ·intro b
  show hpOf bs b = .non ↔ _
  unfold rmR
  by_cases hbl : b < l.length
  ·rw [if_pos hbl, <- H.dom, (at_ b hbl).1]
   cases hpOf bs b <;> simp [Blk.ren]
  ·rw [if_neg hbl]; simp [beyond b hbl]
 ·intro b p hp'
  obtain ⟨h1, h2⟩ := rs hp'
  have := H.own _ p h2
  rw [(at_ b h1).1] at this
  exact zaC.ren (at_ b h1).2 this
 ·intro b c' p q h1 h2 hr hs e
  obtain ⟨g1, g2⟩ := rs h1
  obtain ⟨g3, g4⟩ := rs h2
  refine inj b c' g1 g3 (H.inj _ _ p q g2 g4 ?_ ?_ e)
  ·rw [(at_ b g1).1]; exact Real.ren.2 hr
  ·rw [(at_ c' g3).1]; exact Real.ren.2 hs
 ·intro b p h1 hr
  obtain ⟨g1, g2⟩ := rs h1
  exact H.sep _ p g2 (by rw [(at_ b g1).1]; exact Real.ren.2 hr)
 ·intro b p h1 hr
  obtain ⟨g1, g2⟩ := rs h1
  exact S0.own _ p g2 (by rw [(at_ b g1).1]; exact Real.ren.2 hr)
 ·have rk := hg k
  show RepV ph (rmR (fOf l) l.length ρ) (look t k) _
  rcases zmi ht k with h1 | ⟨h1, h2⟩
  ·rw [h1]; simp [RepV, RepC, RepD]
  ·rw [h1] at rk
   exact RepV.ren _ _ h2 rk
theorem AW.loop {Y : Type} (hp : c.pure) {body : MC} (I : Y -> Prop) (t : Y -> List (Nat × AV)) (bs : Y -> List Blk) (μ : Y -> Nat) {x0 : Y} {l0 : List Nat} (hI : I x0) (h0 : Match l0 S (t x0) (bs x0))
  (round : ∀ x, I x -> AW P c body (thenQ (fun S' => ∃ x' l, I x' /\ Match l S' (t x') (bs x') /\ μ x' < μ x) Q) (hd (t x) (bs x))) : AW P c (.loop body) Q S := by
 intro code hc a w r
 cases code with
 | loop b =>
  simp only [chkC] at hc
  intro fr k cs
  have key : ∀ n : Nat, ∀ x, μ x = n -> I x -> ∀ a w, Rel P c (hd (t x) (bs x)).get (hd (t x) (bs x)).m a w ->
    ∃ e a' w', (∃ S' : St, Rel P c S'.get S'.m a' w' /\ Q e S') /\ Arrives P (lone (fr.at a (.code b :: .inLoop b :: k)) cs w) fr k cs e a' w' := by
   intro n
   induction n using Nat.strongRecOn with
   | _ n ih =>
    intro x hn hx a w r
    obtain ⟨e, a₁, w₁, ⟨S', r', q⟩, harr⟩ := round x hx b hc a w r fr (.inLoop b :: k) cs
    cases e with
    | normal =>
     obtain ⟨x', l, hx', hm, hlt⟩ := q
     obtain ⟨e₂, a₂, w₂, hq₂, harr₂⟩ := ih (μ x') (hn ▸ hlt) x' rfl hx' a₁ w₁ (Rel.view hp hm r')
     exact ⟨e₂, a₂, w₂, hq₂, .of_steps (Steps.trans harr (.one step_inLoop)) harr₂⟩
    | exit id => exact ⟨_, a₁, w₁, ⟨S', r', q⟩, .pass (x := .inLoop b) rfl (fun _ _ => .inl (by simp)) harr⟩
    | goto l => exact ⟨_, a₁, w₁, ⟨S', r', q⟩, .pass (x := .inLoop b) rfl (fun _ _ => .inl (by simp)) harr⟩
    | ret => exact ⟨_, a₁, w₁, ⟨S', r', q⟩, .pass (x := .inLoop b) rfl (fun _ _ => .inl (by simp)) harr⟩
    | panic ch => exact ⟨_, a₁, w₁, ⟨S', r', q⟩, .pass (x := .inLoop b) rfl (fun _ _ => .inl (by simp)) harr⟩
    | outgrown => exact ⟨_, a₁, w₁, ⟨S', r', q⟩, .pass (x := .inLoop b) rfl (fun _ _ => .inl (by simp)) harr⟩
  obtain ⟨e, a', w', hq, harr⟩ := key _ x0 rfl hI a w (Rel.view hp h0 r)
  exact ⟨e, a', w', hq, .of_steps (.one step_loop) harr⟩
 | _ => simp [chkC] at hc
end
end Go.Abs
namespace Go.Abs
def zbz : List (List AC) -> Option (List (List D))
 | [] => some []
 | r :: rs => match allD r, zbz rs with
  | some x, some xs => some (x :: xs)
  | _, _ => none
@[simp] theorem zhY (es : List (List D)) : zbz (es.map (·.map .d)) = some es := by
 induction es with
 | nil => rfl
 | cons e es ih => simp [zbz, ih]
@[simp] theorem zvC (a b : List (List AC)) : zbz (a ++ b) = (zbz a).bind fun x => (zbz b).map fun y => x ++ y := by
 induction a with
 | nil => simp [zbz]
 | cons e a ih =>
  simp only [List.cons_append, zbz]
  cases allD e with
  | none => simp
  | some x =>
   rw [ih]
   cases zbz a with
   | none => simp
   | some y =>
    cases zbz b with
    | none => simp
    | some z => simp
theorem zjK : ∀ {es : List (List AC)} {ds : List (List D)}, zbz es = some ds -> es = ds.map (·.map .d)
 | [], ds, h => by simp [zbz] at h; simp [<- h]
 | e :: es, ds, h => by
  simp only [zbz] at h
  split at h
  ·rename_i x xs h1 h2
   cases h
   rw [zeL h1, zjK h2]; rfl
  ·cases h
mutual
def frzC (m : Hp) : Nat -> AC -> Option D
 | _, .d x => some x
 | _, .msl s b off len => match m b with
  | .arr s' es => if s = s' /\ off + len <= es.length then (zbz es).map fun ds => .sl false s ((ds.drop off).take len) else none
  | _ => none
 | f + 1, .ptr b off => match m b with
  | .box cs => (zcu m f cs).map fun ds => .rp ds off
  | _ => none
 | f + 1, .fn g caps => (zcu m f caps).map fun ds => .fn g ds
 | _, _ => none
def zcu (m : Hp) : Nat -> List AC -> Option (List D)
 | _, [] => some []
 | f, c :: cs => match frzC m f c, zcu m f cs with
  | some x, some xs => some (x :: xs)
  | _, _ => none
end
mutual
def frzV (m : Hp) : AV -> Option DV
 | .c x => (frzC m 4 x).map .one
 | .ag cs => (zcu m 4 cs).map .agg
 | .tup vs => (zeD m vs).map .tup
def zeD (m : Hp) : List AV -> Option (List DV)
 | [] => some []
 | v :: vs => match frzV m v, zeD m vs with
  | some x, some xs => some (x :: xs)
  | _, _ => none
end
@[simp] theorem zxx (m : Hp) (f : Nat) (ds : List D) : zcu m f (ds.map .d) = some ds := by
 induction ds with
 | nil => unfold zcu; rfl
 | cons d ds ih => simp [zcu, ih, frzC]
theorem zhZ {m : Hp} : ∀ (f : Nat) (cs : List AC) (ds : List D), zcu m f cs = some ds -> ds.length = cs.length
 | f, [], ds, e => by unfold zcu at e; cases e; rfl
 | f, c :: cs, ds, e => by
  unfold zcu at e
  split at e
  ·rename_i x xs h1 h2
   cases e
   simp [zhZ f cs xs h2]
  ·cases e
def zbj (h : PH) (n : Nat) (w : Heap) : PH := fun B => if B < n then h B else w[B]?
section
variable {h : PH} {ρ : RM} {m : Hp} {w : Heap} {n : Nat}
theorem zdx (H : HRel h ρ m w) : h.le (zbj h n w) := fun B o e => by
 unfold zbj
 split
 ·exact e
 ·exact H.pers B o e
theorem zfa (H : HRel h ρ m w) : ∀ B o, zbj h n w B = some o -> w[B]? = some o := fun B o e => by
 unfold zbj at e
 split at e
 ·exact H.pers B o e
 ·exact e
mutual
theorem zpN (H : HRel h ρ m w) (hnew : ∀ b p, ρ b = some p -> Real (m b) p -> n <= p.1) : ∀ (f : Nat) (x : AC) (d : D) (v : Value), frzC m f x = some d -> RepC h ρ x v -> RepD (zbj h n w) d v
 | f, .d x, d, v, e, r => by
  unfold frzC at e; cases e
  simp only [RepC] at r
  exact RepD.mono (zdx H) x v r
 | f, .msl s b off len, d, v, e, r => by
  unfold frzC at e
  split at e
  ·rename_i s' es eb
   split at e
   ·rename_i hh
    obtain ⟨h1, h2⟩ := hh
    subst h1
    simp only [Option.map_eq_some_iff] at e
    obtain ⟨ds, e1, e2⟩ := e
    subst e2
    have := zjK e1
    subst this
    simp only [RepC] at r
    obtain ⟨p, a, r1, r2, r3, r4, r5⟩ := r
    simp only [List.length_map] at h2
    have hlen : ((ds.drop off).take len).length = len := by simp; omega
    have how := H.own b p r1
    rw [eb] at how
    unfold RepD
    rcases how with ⟨q1, q2⟩ | ⟨us, U, g1, g2, g3, g5, g4⟩
    ·have hds : ds = [] := by simpa using q2
     subst hds
     have hl0 : len = 0 := by simp at h2; omega
     have ho0 : off = 0 := by simp at h2; omega
     subst hl0 ho0
     refine ⟨a, p.2 - 0, by rw [r2]; simp, by simp, (fun h => by cases h), by simp [zak], (fun ha => ⟨by simp, by omega⟩), r5, by simp [RepE]⟩
    ·refine ⟨a, p.2 - off, by rw [r2, hlen], by omega, (fun h => by cases h), by simp at g5; omega, fun ha => ?_, r5, ?_⟩
     ·have : ¬ off < p.2 := fun hlt => by rw [r4 hlt] at ha; cases ha
      have hl0 : len = 0 := by omega
      subst hl0
      exact ⟨by simp, by omega⟩
     ·by_cases hlt : off < p.2
      ·have ha := r4 hlt
       subst ha
       have hn : n <= p.1 := hnew b p r1 (by rw [eb]; show 0 < p.2; omega)
       have e4 : cellsAt (zbj h n w) (some ⟨p.1, off * s, none⟩) = us.drop (off * s) := by
        simp only [cellsAt, hcells, zbj]
        rw [if_neg (by omega), g1]
       rw [e4]
       have g6 := zai.to_E g4
       have := (g6.drop off).take len
       have key : ∀ (es : List (List D)) (vs : List Value), RepE h s es vs -> RepE (zbj h n w) s es vs := fun es vs r => by
        simpa using RepE.mono (zdx H) es vs [] r
       exact key _ _ this
      ·have hl0 : len = 0 := by omega
       subst hl0
       simp [RepE]
   ·cases e
  ·cases e
 | f + 1, .ptr b off, d, v, e, r => by
  unfold frzC at e
  split at e
  ·rename_i cs eb
   simp only [Option.map_eq_some_iff] at e
   obtain ⟨ds, e1, e2⟩ := e
   subst e2
   simp only [RepC] at r
   obtain ⟨p, r1, r2⟩ := r
   have how := H.own b p r1
   rw [eb] at how
   obtain ⟨us, U, g1, g2, g3⟩ := how
   have hn : n <= p.1 := hnew b p r1 (by rw [eb]; trivial)
   unfold RepD
   refine ⟨p.1, 0, by rw [r2]; simp, ?_⟩
   have e4 : hcells (zbj h n w) p.1 = us := by
    simp only [hcells, zbj]
    rw [if_neg (by omega), g1]
   rw [e4]
   exact zgN H hnew f cs ds us e1 (by simpa using g3)
  ·cases e
 | f + 1, .fn g caps, d, v, e, r => by
  unfold frzC at e
  simp only [Option.map_eq_some_iff] at e
  obtain ⟨ds, e1, e2⟩ := e
  subst e2
  simp only [RepC] at r
  obtain ⟨vs, r1, r2, r3⟩ := r
  unfold RepD
  have hl : ds.length = caps.length := zhZ f caps ds e1
  exact ⟨vs, r1, by rw [r2, hl], zgN H hnew f caps ds vs e1 r3⟩
 | 0, .ptr b off, d, v, e, r => by unfold frzC at e; cases e
 | 0, .fn g caps, d, v, e, r => by unfold frzC at e; cases e
 | 0, .ept s b i off, d, v, e, r => by unfold frzC at e; cases e
 | _ + 1, .ept s b i off, d, v, e, r => by unfold frzC at e; cases e
 | 0, .map b, d, v, e, r => by unfold frzC at e; cases e
 | _ + 1, .map b, d, v, e, r => by unfold frzC at e; cases e
 | 0, .op q, d, v, e, r => by unfold frzC at e; cases e
 | _ + 1, .op q, d, v, e, r => by unfold frzC at e; cases e
theorem zgN (H : HRel h ρ m w) (hnew : ∀ b p, ρ b = some p -> Real (m b) p -> n <= p.1) : ∀ (f : Nat) (cs : List AC) (ds : List D) (vs : List Value), zcu m f cs = some ds -> zad h ρ cs vs -> RepL (zbj h n w) ds vs
 | f, [], ds, vs, e, r => by unfold zcu at e; cases e; simp [RepL]
 | f, _ :: _, ds, [], e, r => by simp [zad] at r
 | f, c :: cs, ds, v :: vs, e, r => by
  unfold zcu at e
  split at e
  ·rename_i x xs h1 h2
   cases e
   simp only [zad] at r
   simp only [RepL]
   exact ⟨⟨r.1.1, zpN H hnew f c x v h1 r.1.2⟩, zgN H hnew f cs xs vs h2 r.2⟩
  ·cases e
end
mutual
theorem zpO (H : HRel h ρ m w) (hnew : ∀ b p, ρ b = some p -> Real (m b) p -> n <= p.1) : ∀ (x : AV) (d : DV) (v : Value), frzV m x = some d -> RepV h ρ x v -> zaH (zbj h n w) d v
 | .c x, d, v, e, r => by
  unfold frzV at e
  simp only [Option.map_eq_some_iff] at e
  obtain ⟨y, e1, e2⟩ := e
  subst e2
  simp only [RepV] at r
  simp only [zaH]
  exact zpN H hnew _ _ _ _ e1 r
 | .ag cs, d, v, e, r => by
  unfold frzV at e
  simp only [Option.map_eq_some_iff] at e
  obtain ⟨y, e1, e2⟩ := e
  subst e2
  simp only [RepV] at r
  obtain ⟨vs, r1, r2, r3⟩ := r
  simp only [zaH]
  exact ⟨vs, r1, by rw [r2, zhZ _ _ _ e1], zgN H hnew _ _ _ _ e1 r3⟩
 | .tup xs, d, v, e, r => by
  unfold frzV at e
  simp only [Option.map_eq_some_iff] at e
  obtain ⟨y, e1, e2⟩ := e
  subst e2
  simp only [RepV] at r
  obtain ⟨vs, r1, r2⟩ := r
  simp only [zaH]
  exact ⟨vs, r1, zgO H hnew _ _ _ e1 r2⟩
theorem zgO (H : HRel h ρ m w) (hnew : ∀ b p, ρ b = some p -> Real (m b) p -> n <= p.1) : ∀ (xs : List AV) (ds : List DV) (vs : List Value), zeD m xs = some ds -> zar h ρ xs vs -> zav (zbj h n w) ds vs
 | [], ds, vs, e, r => by unfold zeD at e; cases e; simpa [zar, zav] using r
 | _ :: _, ds, [], e, r => by simp [zar] at r
 | x :: xs, ds, v :: vs, e, r => by
  unfold zeD at e
  split at e
  ·rename_i y ys h1 h2
   cases e
   simp only [zar] at r
   simp only [zav]
   exact ⟨zpO H hnew x y v h1 r.1, zgO H hnew xs ys vs h2 r.2⟩
  ·cases e
end
end
mutual
def D.ok : D -> Prop
 | .any => True
 | .int k n => k.min <= n /\ n <= k.max
 | .bool _ => True
 | .str s => s.size <= zak
 | .sc _ => True
 | .sl _ s es => es.length <= zak /\ D.okE s es
 | .rp cs _ => D.okL cs
 | .fn _ cs => D.okL cs
 | .ifc _ _ cs => D.okL cs
def D.okL : List D -> Prop
 | [] => True
 | d :: ds => d.ok /\ D.okL ds
def D.okE (s : Nat) : List (List D) -> Prop
 | [] => True
 | e :: es => (e.length = s /\ D.okL e) /\ D.okE s es
end
mutual
theorem RepD.ok {h : PH} : ∀ (d : D) (v : Value), RepD h d v -> d.ok
 | .any, _, _ => by simp [D.ok]
 | .int k n, v, r => by simp only [RepD] at r; simp only [D.ok]; exact r.2
 | .bool _, _, _ => by simp [D.ok]
 | .str s, v, r => by simp only [RepD] at r; simp only [D.ok]; exact r.2
 | .sc _, _, _ => by simp [D.ok]
 | .sl x s es, v, r => by
  simp only [RepD] at r
  obtain ⟨a, cap, r1, r2, r3, r4, r5, r6, r7⟩ := r
  simp only [D.ok]
  exact ⟨r4, RepE.ok s es _ r7⟩
 | .rp cs off, v, r => by
  simp only [RepD] at r
  obtain ⟨B, o, r1, r2⟩ := r
  simp only [D.ok]
  exact RepL.ok cs _ r2
 | .fn f caps, v, r => by
  simp only [RepD] at r
  obtain ⟨vs, r1, r2, r3⟩ := r
  simp only [D.ok]
  exact RepL.ok caps _ r3
 | .ifc t ag cs, v, r => by
  simp only [RepD] at r
  obtain ⟨vs, r1, r2, r3, r4⟩ := r
  simp only [D.ok]
  exact RepL.ok cs _ r4
theorem RepL.ok {h : PH} : ∀ (ds : List D) (vs : List Value), RepL h ds vs -> D.okL ds
 | [], _, _ => by simp [D.okL]
 | _ :: _, [], r => by simp [RepL] at r
 | d :: ds, v :: vs, r => by
  simp only [RepL] at r
  simp only [D.okL]
  exact ⟨RepD.ok d v r.1.2, RepL.ok ds vs r.2⟩
theorem RepE.ok {h : PH} (s : Nat) : ∀ (es : List (List D)) (vs : List Value), RepE h s es vs -> D.okE s es
 | [], _, _ => by simp [D.okE]
 | e :: es, vs, r => by
  simp only [RepE] at r
  simp only [D.okE]
  exact ⟨⟨r.1, RepL.ok e vs r.2.1⟩, RepE.ok s es _ r.2.2⟩
end
mutual
def DV.ok : DV -> Prop
 | .one x => x.ok
 | .agg cs => D.okL cs
 | .tup vs => DV.okL vs
def DV.okL : List DV -> Prop
 | [] => True
 | v :: vs => v.ok /\ DV.okL vs
end
mutual
theorem zaH.ok {h : PH} : ∀ (d : DV) (v : Value), zaH h d v -> d.ok
 | .one x, v, r => by simp only [zaH] at r; simp only [DV.ok]; exact RepD.ok _ _ r
 | .agg cs, v, r => by
  simp only [zaH] at r
  obtain ⟨vs, r1, r2, r3⟩ := r
  simp only [DV.ok]; exact RepL.ok _ _ r3
 | .tup xs, v, r => by
  simp only [zaH] at r
  obtain ⟨vs, r1, r2⟩ := r
  simp only [DV.ok]; exact zav.ok _ _ r2
theorem zav.ok {h : PH} : ∀ (ds : List DV) (vs : List Value), zav h ds vs -> DV.okL ds
 | [], _, _ => by simp [DV.okL]
 | _ :: _, [], r => by simp [zav] at r
 | d :: ds, v :: vs, r => by
  simp only [zav] at r
  simp only [DV.okL]
  exact ⟨zaH.ok d v r.1, zav.ok ds vs r.2⟩
end
def D.er : D -> D
 | .sl _ s es => .sl false s es
 | d => d
theorem RepD.er {h : PH} {d : D} {v : Value} (r : RepD h d v) : RepD h d.er v := by
 cases d with
 | sl x s es =>
  simp only [D.er]
  simp only [RepD] at r ⊢
  obtain ⟨a, cap, r1, r2, r3, r4⟩ := r
  exact ⟨a, cap, r1, r2, (fun h => by cases h), r4⟩
 | _ => exact r
theorem RepL.er {h : PH} : ∀ {ds : List D} {vs : List Value}, RepL h ds vs -> RepL h (ds.map D.er) vs
 | [], _, _ => by simp [RepL]
 | _ :: _, [], r => by simp [RepL] at r
 | d :: ds, v :: vs, r => by
  simp only [RepL] at r
  simp only [List.map_cons, RepL]
  exact ⟨⟨r.1.1, r.1.2.er⟩, r.2.er⟩
mutual
def DV.er : DV -> DV
 | .one x => .one x.er
 | .agg cs => .agg (cs.map D.er)
 | .tup vs => .tup (DV.ers vs)
def DV.ers : List DV -> List DV
 | [] => []
 | v :: vs => v.er :: DV.ers vs
end
mutual
theorem zaH.er {h : PH} : ∀ {d : DV} {v : Value}, zaH h d v -> zaH h d.er v
 | .one x, v, r => by simp only [zaH, DV.er] at r ⊢; exact RepD.er r
 | .agg cs, v, r => by
  simp only [zaH, DV.er] at r ⊢
  obtain ⟨vs, r1, r2, r3⟩ := r
  exact ⟨vs, r1, by simpa using r2, r3.er⟩
 | .tup xs, v, r => by
  simp only [zaH, DV.er] at r ⊢
  obtain ⟨vs, r1, r2⟩ := r
  exact ⟨vs, r1, zav.ers r2⟩
theorem zav.ers {h : PH} : ∀ {ds : List DV} {vs : List Value}, zav h ds vs -> zav h (DV.ers ds) vs
 | [], _, r => by simpa [zav, DV.ers] using r
 | _ :: _, [], r => by simp [zav] at r
 | d :: ds, v :: vs, r => by
  simp only [zav] at r
  simp only [DV.ers, zav]
  exact ⟨r.1.er, zav.ers r.2⟩
end
inductive MR where
 | tmp (t : Nat)
 | cell (t : Nat) (ag : Bool) (sz : Nat)
def chkR (P : Program) : List MR -> List ResultVar -> Bool
 | [], [] => true
 | .tmp t :: rs, .tmp t' :: vs => t == t' && chkR P rs vs
 | .cell t ag sz :: rs, .cell t' T :: vs => t == t' && tyA P T == some (ag, sz) && chkR P rs vs
 | _, _ => false
def resK (S : St) (K : AV -> Prop) : MR -> Prop
 | .tmp t => K (S.get t)
 | .cell t ag sz => match S.get t with
  | .c (.d (.rp cs off)) => ldD ag sz cs off K
  | .c (.ptr b off) => match S.m b with
   | .box cs => ldC ag sz cs off K
   | _ => False
  | _ => False
def zfz (S : St) : List MR -> (List AV -> Prop) -> Prop
 | [], K => K []
 | r :: rs, K => resK S (fun v => zfz S rs fun vs => K (v :: vs)) r
def oneV : List Value -> Value
 | [v] => v
 | vs => .tuple vs.toArray
def one? : List AV -> AV
 | [v] => v
 | vs => .tup vs
section
variable {P : Program} {c : Ctx}
theorem zuR {S : St} {K : AV -> Prop} {r : MR} {rv : ResultVar} (hc : chkR P [r] [rv] = true) (hK : resK S K r) : ∃ v, K v /\ ∀ {h : PH} {ρ : RM} {a : Act} {w : World}, HRel h ρ S.m w.heap -> (∀ k, RepV h ρ (S.get k) (a.tmps.getD k undef)) ->
  ∃ vC, Runs P (match rv with | .tmp t => (Pure.pure (a.tmps.getD t undef) : Sem Value) | .cell t T => do loadVar T (<- asAddr (a.tmps.getD t undef))) w vC w /\ RepV h ρ v vC := by
 cases r with
 | tmp t =>
  cases rv with
  | tmp t' =>
   simp only [chkR, Bool.and_true, beq_iff_eq] at hc
   subst hc
   exact ⟨_, hK, fun {h ρ a w} H hg => ⟨_, Runs.pure _, hg t⟩⟩
  | cell _ _ => simp [chkR] at hc
 | cell t ag sz =>
  cases rv with
  | tmp _ => simp [chkR] at hc
  | cell t' T =>
   simp only [chkR, Bool.and_true, Bool.and_eq_true, beq_iff_eq] at hc
   obtain ⟨h1, hT⟩ := hc
   subst h1
   simp only [resK] at hK
   split at hK
   ·rename_i cs off ex
    obtain ⟨v, kv, F⟩ := zsl hT hK
    refine ⟨v, kv, fun {h ρ a w} H hg => ?_⟩
    have r1 := hg t
    rw [ex] at r1
    simp only [RepV, RepC, RepD] at r1
    obtain ⟨B, o', e, rl⟩ := r1
    obtain ⟨vC, h2, h3⟩ := F (ρ := ρ) H rl
    refine ⟨vC, ?_, h3⟩
    show Runs P (do loadVar T (<- asAddr (a.tmps.getD t undef))) w vC w
    rw [e]
    exact (Runs.pure (⟨B, o' + off, none⟩ : Addr)).bind h2
   ·rename_i b off ex
    split at hK
    ·rename_i cs eb
     obtain ⟨v, kv, F⟩ := zn9 hT hK
     refine ⟨v, kv, fun {h ρ a w} H hg => ?_⟩
     have r1 := hg t
     rw [ex] at r1
     simp only [RepV, RepC] at r1
     obtain ⟨q, hq, e⟩ := r1
     have how := H.own b q hq
     rw [eb] at how
     obtain ⟨vs, U, g1, g2, g3⟩ := how
     obtain ⟨vC, h2, h3⟩ := F (w := w) (o := 0) g1 (by simpa using g3)
     refine ⟨vC, ?_, h3⟩
     show Runs P (do loadVar T (<- asAddr (a.tmps.getD t undef))) w vC w
     rw [e]
     simp only [Nat.zero_add] at h2
     exact (Runs.pure (⟨q.1, off, none⟩ : Addr)).bind h2
    ·exact hK.elim
   ·exact hK.elim
theorem zjL {S : St} : ∀ {rs : List MR} {K : List AV -> Prop} {rvs : List ResultVar}, chkR P rs rvs = true -> zfz S rs K -> ∃ vs, K vs /\ ∀ {h : PH} {ρ : RM} {a : Act} {w : World}, HRel h ρ S.m w.heap -> (∀ k, RepV h ρ (S.get k) (a.tmps.getD k undef)) ->
  ∃ us : List Value, Runs P (rvs.mapM fun | .tmp t => (Pure.pure (a.tmps.getD t undef) : Sem Value) | .cell t T => do loadVar T (<- asAddr (a.tmps.getD t undef))) w us w /\ zar h ρ vs us
 | [], K, [], _, hK => ⟨[], hK, fun _ _ => ⟨[], Runs.pure _, rfl⟩⟩
 | [], _, _ :: _, h, _ => by simp [chkR] at h
 | r :: rs, _, [], h, _ => by cases r <;> simp [chkR] at h
 | r :: rs, K, rv :: rvs, hc, hK => by
  have h1 : chkR P [r] [rv] = true /\ chkR P rs rvs = true := by
   cases r <;> cases rv <;> simp_all [chkR]
  simp only [zfz] at hK
  obtain ⟨v, kv, F⟩ := zuR h1.1 hK
  obtain ⟨vs, kvs, G⟩ := zjL h1.2 kv
  refine ⟨v :: vs, kvs, fun {h ρ a w} H hg => ?_⟩
  obtain ⟨vC, f1, f2⟩ := F (a := a) H hg
  obtain ⟨us, g1, g2⟩ := G (a := a) H hg
  refine ⟨vC :: us, ?_, ⟨f2, g2⟩⟩
  rw [List.mapM_cons]
  exact f1.bind (g1.bind (Runs.pure _))
def argT : Nat -> List DV -> List (Nat × AV)
 | _, [] => []
 | i, v :: vs => (i, v.av) :: argT (i + 1) vs
def endQ (rs : List MR) (v : DV) : Exit -> St -> Prop
 | .ret, S | .normal, S => zfz S rs fun vs => (frzV S.m (one? vs)).map DV.er = some v
 | _, _ => False
theorem zpP {h : PH} {ρ : RM} : ∀ {ds : List DV} {us : List Value} (i : Nat), zav h ds us -> ∀ k, RepV h ρ (look (argT i ds) k) (if i <= k then us.getD (k - i) undef else undef)
 | [], us, i, _, k => by simp [argT, look, RepV, RepC, RepD]
 | _ :: _, [], _, r, _ => by simp [zav] at r
 | d :: ds, u :: us, i, r, k => by
  simp only [zav] at r
  simp only [argT, look]
  by_cases hk : k = i
  ·subst hk; simp; exact zaH.av r.1
  ·rw [if_neg hk]
   have := zpP (ρ := ρ) (i + 1) r.2 k
   by_cases hle : i <= k
   ·rw [if_pos hle]
    rw [if_pos (by omega)] at this
    rw [show k - i = (k - (i + 1)) + 1 from by omega]
    simpa using this
   ·rw [if_neg hle]
    rw [if_neg (by omega)] at this
    exact this
theorem PCall.of_walk {f : FuncId} {fn : Func} {code : Code} {mc : MC} {rs : List MR} {args : List DV} {v : DV} (hf : P.funcs[f]? = some fn) (hb : fn.body = some code) (hname : (fn.name != "runtime.NumGoroutine") = true)
  (hc : chkC P fn.ntmps mc code = true) (hr : chkR P rs fn.results.toList = true) (hn : args.length <= fn.ntmps) (h : DV.okL args -> ∀ c : Ctx, c.N = fn.ntmps -> c.pure -> AW P c mc (endQ rs v) ⟨argT 0 args, fun _ => .non, 0⟩) : PCall P f args v := by
 refine ⟨by unfold callee; rw [hf]; simp only [hb]; simpa using hname, fun ph w us hp hG ra => ?_⟩
 have hlen := ra.length
 let c : Ctx := ⟨ph, fun _ => none, fun _ => .non, w, fn.ntmps⟩
 have hpure : c.pure := trivial
 refine calls_of_wp hf hb (wp_mono (h (zav.ok _ _ ra) c rfl hpure code hc _ w ?_) fun e a' w' ⟨S', r', q⟩ => ?_)
 ·refine ⟨hG, rfl, ?_, ph, fun _ => none, ⟨hp, fun b => by simp, (fun b p e => by cases e), (fun b c p q e => by cases e), (fun b p e => by cases e)⟩, (Step.refl _ _ _ _).wk, Same.refl w, fun k => ?_⟩
  ·simp [c]; omega
  ·show RepV ph (fun _ => none) (look (argT 0 args) k) _
   have := zpP (ρ := fun _ => none) 0 ra k
   simp only [Nat.zero_le, if_true, Nat.sub_zero] at this
   have e1 : (us.toArray ++ Array.replicate (fn.ntmps - us.toArray.size) undef).getD k undef = us.getD k undef := by
    rw [Array.getD_eq_getD_getElem?, List.getD_eq_getElem?_getD, Array.getElem?_append]
    split
    ·simp
    ·rename_i hh
     rw [List.getElem?_eq_none (by simpa using hh)]
     simp only [Array.getElem?_replicate]
     split <;> rfl
   rw [e1]
   exact this
 ·obtain ⟨ph', ρ', H, S0, e0, hg⟩ := r'.ex
  have fin : zfz S' rs (fun vs => (frzV S'.m (one? vs)).map DV.er = some v) -> ∃ vC, (results fn a'.tmps).run P w' = .ok vC w' /\ ∃ (vC' : Value) (h' : PH), Ending.returned vC = .returned vC' /\ ph.le h' /\ (∀ B, B < w.heap.size -> h' B = ph B) /\ (∀ B o, h' B = some o -> w'.heap[B]? = some o) /\
    w.heap.size <= w'.heap.size /\ (∀ B, B < w.heap.size -> w'.heap[B]? = w.heap[B]?) /\ Same w w' /\ zaH h' v vC' := by
   intro hk
   obtain ⟨vs, kv, F⟩ := zjL hr hk
   simp only [Option.map_eq_some_iff] at kv
   obtain ⟨v', kv, ev⟩ := kv
   subst ev
   obtain ⟨us', g1, g2⟩ := F (a := a') H hg
   have hnew : ∀ b p, ρ' b = some p -> Real (S'.m b) p -> w.heap.size <= p.1 := by
    intro b p h1 h2
    rcases S0.own b p h1 h2 with h3 | ⟨c', q, h3, _⟩
    ·exact h3
    ·cases h3
   have free : ∀ B, Free c.ρ c.m B := fun B b p h1 => by cases h1
   have hres : Runs P (results fn a'.tmps) w' (oneV us') w' := by
    unfold results
    refine Runs.bind (a := us'.toArray) (w' := w') ?_ ?_
    ·rw [Array.mapM_eq_mapM_toList]
     exact g1.map (f := List.toArray)
    ·cases us' with
     | nil => exact Runs.pure _
     | cons u us' =>
      cases us' with
      | nil => exact Runs.pure _
      | cons u' us' => exact Runs.pure _
   have hrep : RepV ph' ρ' (one? vs) (oneV us') := by
    cases vs with
    | nil =>
     simp only [zar] at g2; subst g2
     simp only [one?, RepV]
     exact ⟨[], rfl, rfl⟩
    | cons x xs =>
     cases us' with
     | nil => simp [zar] at g2
     | cons u us' =>
      cases xs with
      | nil =>
       simp only [zar] at g2
       rw [g2.2]
       exact g2.1
      | cons y ys =>
       cases us' with
       | nil => simp [zar] at g2
       | cons u' us' =>
        simp only [one?, RepV]
        exact ⟨_, rfl, g2⟩
   refine ⟨_, hres, _, zbj ph' w.heap.size w'.heap, rfl, PH.le_trans S0.hle (zdx H), fun B hB => ?_, zfa H, S0.size, fun B hB => S0.frame B hB (free B), e0, (zpO H hnew _ _ _ kv hrep).er⟩
   unfold zbj
   rw [if_pos hB]
   exact S0.hlow B hB (free B)
  cases e with
  | normal => exact ⟨r'.defers, fin q⟩
  | ret => exact ⟨r'.defers, fin q⟩
  | exit _ => exact q.elim
  | goto _ => exact q.elim
  | panic _ => exact q.elim
  | outgrown => exact q.elim
end
end Go.Abs
namespace Go.Abs
def AC.fz (b s : Nat) (ds : List (List D)) : AC -> AC
 | .msl s' b' off len => if b' = b /\ s' = s /\ off + len <= ds.length then .d (.sl false s ((ds.drop off).take len)) else .msl s' b' off len
 | x => x
def AV.fz (b s : Nat) (ds : List (List D)) : AV -> AV
 | .c x => .c (x.fz b s ds)
 | .ag cs => match allD cs with
  | some _ => .ag cs
  | none => .ag (cs.map (AC.fz b s ds))
 | .tup vs => .tup vs
def Blk.fz (b s : Nat) (ds : List (List D)) : Blk -> Blk
 | .box cs => match allD cs with
  | some _ => .box cs
  | none => .box (cs.map (AC.fz b s ds))
 | .arr s' es => match zbz es with
  | some _ => .arr s' es
  | none => .arr s' (es.map (·.map (AC.fz b s ds)))
 | x => x
@[simp] theorem AC.fz_msl {b s : Nat} {ds : List (List D)} {s' b' off len : Nat} : (AC.msl s' b' off len).fz b s ds = if b' = b /\ s' = s /\ off + len <= ds.length then .d (.sl false s ((ds.drop off).take len)) else .msl s' b' off len := (Eq.refl _).trans rfl
@[simp] theorem AC.fz_d {b s : Nat} {ds : List (List D)} {x : D} : (AC.d x).fz b s ds = .d x := (Eq.refl _).trans rfl
@[simp] theorem AC.fz_ptr {b s : Nat} {ds : List (List D)} {i j : Nat} : (AC.ptr i j).fz b s ds = .ptr i j := (Eq.refl _).trans rfl
@[simp] theorem AC.fz_ept {b s : Nat} {ds : List (List D)} {i j k l : Nat} : (AC.ept i j k l).fz b s ds = .ept i j k l := (Eq.refl _).trans rfl
@[simp] theorem AV.fz_c {b s : Nat} {ds : List (List D)} {x : AC} : (AV.c x).fz b s ds = .c (x.fz b s ds) := (Eq.refl _).trans rfl
@[simp] theorem AV.fz_ag {b s : Nat} {ds : List (List D)} {cs : List AC} : (AV.ag cs).fz b s ds = (match allD cs with
  | some _ => .ag cs
  | none => .ag (cs.map (AC.fz b s ds))) := (Eq.refl _).trans rfl
@[simp] theorem AV.fz_tup {b s : Nat} {ds : List (List D)} {vs : List AV} : (AV.tup vs).fz b s ds = .tup vs := (Eq.refl _).trans rfl
@[simp] theorem Blk.fz_box {b s : Nat} {ds : List (List D)} {cs : List AC} : (Blk.box cs).fz b s ds = (match allD cs with
  | some _ => .box cs
  | none => .box (cs.map (AC.fz b s ds))) := (Eq.refl _).trans rfl
@[simp] theorem Blk.fz_arr {b s : Nat} {ds : List (List D)} {s' : Nat} {es : List (List AC)} : (Blk.arr s' es).fz b s ds = (match zbz es with
  | some _ => .arr s' es
  | none => .arr s' (es.map (·.map (AC.fz b s ds)))) := (Eq.refl _).trans rfl
@[simp] theorem Blk.fz_dead {b s : Nat} {ds : List (List D)} : Blk.dead.fz b s ds = .dead := (Eq.refl _).trans rfl
@[simp] theorem Blk.fz_nonB {b s : Nat} {ds : List (List D)} : Blk.non.fz b s ds = .non := (Eq.refl _).trans rfl
@[simp] theorem Blk.fz_mapB {b s : Nat} {ds : List (List D)} {es : List (D × AV)} : (Blk.map es).fz b s ds = .map es := (Eq.refl _).trans rfl
@[simp] theorem Blk.fz_pin {b s : Nat} {ds : List (List D)} {t : Nat × Nat} {i : Nat} : (Blk.pin t i).fz b s ds = .pin t i := (Eq.refl _).trans rfl
@[simp] theorem zkO {α : Type} (l : List α) (f : α -> List D) : zbz (l.map ((fun x => List.map AC.d x) ∘ f)) = some (l.map f) := by
 rw [<- List.map_map]; exact zhY _
section
variable {h : PH} {ρ : RM} {m : Hp} {w : Heap} {b s : Nat} {ds : List (List D)}
noncomputable def fzH (h : PH) (p : Nat × Nat) (w : Heap) : PH := if 0 < p.2 then upd h p.1 w[p.1]? else h
theorem zh2 (H : HRel h ρ m w) {p : Nat × Nat} (e : ρ b = some p) (hb : m b = .arr s (ds.map (·.map .d))) :
  HRel (fzH h p w) ρ (upd m b .dead) w /\ Step h ρ m w (fzH h p w) ρ (upd m b .dead) w /\ h.le (fzH h p w) := by
 unfold fzH
 by_cases hp : 0 < p.2
 ·rw [if_pos hp]
  obtain ⟨a, c⟩ := H.freeze e (show Real (m b) p by rw [hb]; exact hp)
  exact ⟨a, c, c.hle⟩
 ·rw [if_neg hp]
  obtain ⟨a, c⟩ := H.kill (b := b) (by rw [hb]; intro h; cases h)
  exact ⟨a, c, c.hle⟩
theorem RepC.fz (H : HRel h ρ m w) {p : Nat × Nat} (e : ρ b = some p) (hb : m b = .arr s (ds.map (·.map .d))) {x : AC} {v : Value} (r : RepC h ρ x v) : RepC (fzH h p w) ρ (x.fz b s ds) v := by
 have hle := (zh2 H e hb).2.2
 cases x with
 | msl s' b' off len =>
  show RepC _ _ (if b' = b /\ s' = s /\ off + len <= ds.length then AC.d (.sl false s ((ds.drop off).take len)) else .msl s' b' off len) v
  by_cases hh : b' = b /\ s' = s /\ off + len <= ds.length
  ·rw [if_pos hh]
   obtain ⟨rfl, rfl, h2⟩ := hh
   simp only [RepC] at r ⊢
   obtain ⟨p', a, r1, r2, r3, r4, r5⟩ := r
   rw [e] at r1; cases r1
   have hlen : ((ds.drop off).take len).length = len := by simp; omega
   have how := H.own b' p e
   rw [hb] at how
   unfold RepD
   rcases how with ⟨q1, q2⟩ | ⟨us, U, g1, g2, g3, g5, g4⟩
   ·have hds : ds = [] := by simpa using q2
    subst hds
    have hl0 : len = 0 := by simp at h2; omega
    have ho0 : off = 0 := by simp at h2; omega
    subst hl0 ho0
    exact ⟨a, p.2 - 0, by rw [r2]; simp, by simp, (fun h => by cases h), by simp [zak], (fun ha => ⟨by simp, by omega⟩), r5, by simp [RepE]⟩
   ·refine ⟨a, p.2 - off, by rw [r2, hlen], by omega, (fun h => by cases h), by simp at g5; omega, fun ha => ?_, r5, ?_⟩
    ·have : ¬ off < p.2 := fun hlt => by rw [r4 hlt] at ha; cases ha
     have hl0 : len = 0 := by omega
     subst hl0
     exact ⟨by simp, by omega⟩
    ·by_cases hlt : off < p.2
     ·have ha := r4 hlt
      subst ha
      have e4 : cellsAt (fzH h p w) (some ⟨p.1, off * s', none⟩) = us.drop (off * s') := by
       unfold fzH
       rw [if_pos (by omega)]
       simp only [cellsAt, hcells, zaq]
       rw [g1]
      rw [e4]
      have g6 := zai.to_E g4
      have := (g6.drop off).take len
      have key : ∀ (es : List (List D)) (vs : List Value), RepE h s' es vs -> RepE (fzH h p w) s' es vs := fun es vs r => by
       simpa using RepE.mono hle es vs [] r
      exact key _ _ this
     ·have hl0 : len = 0 := by omega
      subst hl0
      simp [RepE]
  ·rw [if_neg hh]; exact RepC.mono hle (RM.le_refl _) _ _ r
 | _ => exact RepC.mono hle (RM.le_refl _) _ _ r
theorem zad.fz (H : HRel h ρ m w) {p : Nat × Nat} (e : ρ b = some p) (hb : m b = .arr s (ds.map (·.map .d))) : ∀ {cs : List AC} {vs : List Value}, zad h ρ cs vs -> zad (fzH h p w) ρ (cs.map (AC.fz b s ds)) vs
 | [], _, _ => by simp [zad]
 | _ :: _, [], r => by simp [zad] at r
 | c :: cs, v :: vs, r => by
  simp only [zad, List.map_cons] at r ⊢
  exact ⟨⟨r.1.1, RepC.fz H e hb r.1.2⟩, zad.fz H e hb r.2⟩
theorem zai.fz (H : HRel h ρ m w) {p : Nat × Nat} (e : ρ b = some p) (hb : m b = .arr s (ds.map (·.map .d))) {t : Nat} : ∀ {es : List (List AC)} {vs : List Value}, zai h ρ t es vs -> zai (fzH h p w) ρ t (es.map (·.map (AC.fz b s ds))) vs
 | [], _, _ => by simp [zai]
 | c :: cs, vs, r => by
  simp only [zai, List.map_cons, List.length_map] at r ⊢
  exact ⟨r.1, zad.fz H e hb r.2.1, zai.fz H e hb r.2.2⟩
theorem RepV.fz (H : HRel h ρ m w) {p : Nat × Nat} (e : ρ b = some p) (hb : m b = .arr s (ds.map (·.map .d))) {x : AV} {v : Value} (r : RepV h ρ x v) : RepV (fzH h p w) ρ (x.fz b s ds) v := by
 cases x with
 | c x => simp only [RepV, AV.fz] at r ⊢; exact RepC.fz H e hb r
 | ag cs =>
  rw [AV.fz_ag]
  split
  ·exact RepV.mono (zh2 H e hb).2.2 (RM.le_refl _) _ _ r
  ·simp only [RepV, List.length_map] at r ⊢
   obtain ⟨vs, r1, r2, r3⟩ := r
   exact ⟨vs, r1, r2, zad.fz H e hb r3⟩
 | tup vs => exact RepV.mono (zh2 H e hb).2.2 (RM.le_refl _) _ _ r
theorem Blk.fz_non {x : Blk} : x.fz b s ds = .non ↔ x = .non := by cases x <;> simp <;> split <;> simp
theorem Blk.fz_real {x : Blk} {p : Nat × Nat} : Real (x.fz b s ds) p ↔ Real x p := by cases x <;> simp <;> split <;> simp [Real]
theorem zaC.fz (H : HRel h ρ m w) {p q : Nat × Nat} (e : ρ b = some p) (hb : m b = .arr s (ds.map (·.map .d))) {x : Blk} (r : zaC h ρ q x w) : zaC (fzH h p w) ρ q (x.fz b s ds) w := by
 have hle := (zh2 H e hb).2.2
 cases x with
 | box cs =>
  rw [Blk.fz_box]
  split
  ·exact zaC.congr hle (RM.le_refl _) rfl r
  ·simp only [zaC, List.length_map] at r ⊢
   obtain ⟨vs, T, r1, r2, r3⟩ := r
   exact ⟨vs, T, r1, r2, zad.fz H e hb r3⟩
 | arr t es =>
  rw [Blk.fz_arr]
  split
  ·exact zaC.congr hle (RM.le_refl _) rfl r
  ·simp only [zaC, List.length_map, List.map_eq_nil_iff] at r ⊢
   rcases r with r | ⟨vs, T, r1, r2, r3, r4, r5⟩
   ·exact .inl r
   ·exact .inr ⟨vs, T, r1, r2, r3, r4, zai.fz H e hb r5⟩
 | _ => exact zaC.congr hle (RM.le_refl _) rfl r
def fzM (m : Hp) (b s : Nat) (ds : List (List D)) : Hp := fun i => if i = b then .dead else (m i).fz b s ds
@[simp] theorem zsd (m : Hp) (b s : Nat) (ds : List (List D)) (i : Nat) : fzM m b s ds i = if i = b then .dead else (m i).fz b s ds := (Eq.refl _).trans rfl
theorem HRel.fz (H : HRel h ρ m w) {p : Nat × Nat} (e : ρ b = some p) (hb : m b = .arr s (ds.map (·.map .d))) :
  HRel (fzH h p w) ρ (fzM m b s ds) w /\ Step h ρ m w (fzH h p w) ρ (fzM m b s ds) w := by
 obtain ⟨K, S, hle⟩ := zh2 H e hb
 have hn : ∀ i, fzM m b s ds i = .non ↔ upd m b .dead i = .non := fun i => by
  unfold fzM
  by_cases hi : i = b
  ·subst hi; rw [if_pos rfl, zaq]
  ·rw [if_neg hi, zat _ _ hi]; exact Blk.fz_non
 have hr : ∀ i q, Real (fzM m b s ds i) q ↔ Real (upd m b .dead i) q := fun i q => by
  unfold fzM
  by_cases hi : i = b
  ·subst hi; rw [if_pos rfl, zaq]
  ·rw [if_neg hi, zat _ _ hi]; exact Blk.fz_real
 refine ⟨⟨K.pers, fun i => (hn i).trans (K.dom i), fun i q hq => ?_, fun i j q q' h1 h2 h3 h4 => K.inj i j q q' h1 h2 ((hr _ _).1 h3) ((hr _ _).1 h4), fun i q h1 h2 => K.sep i q h1 ((hr _ _).1 h2)⟩,
  ⟨S.hle, S.hlow, S.rle, S.size, S.frame, fun i q h1 h2 => S.own i q h1 ((hr _ _).1 h2)⟩⟩
 unfold fzM
 by_cases hi : i = b
 ·subst hi; rw [if_pos rfl]; trivial
 ·rw [if_neg hi]
  exact zaC.fz H e hb (H.own i q hq)
end
theorem Rel.fz {P : Program} {c : Ctx} {get : Nat -> AV} {m : Hp} {a : Act} {w : World} {b s : Nat} {ds : List (List D)} (R : Rel P c get m a w) (hb : m b = .arr s (ds.map (·.map .d))) : Rel P c (fun k => (get k).fz b s ds) (fzM m b s ds) a w := by
 obtain ⟨h, ρ, H, S, sm, r⟩ := R.ex
 have hne : ρ b ≠ none := fun e => by have := (H.dom b).2 e; rw [hb] at this; cases this
 obtain ⟨p, e⟩ := Option.ne_none_iff_exists'.1 hne
 obtain ⟨K, T⟩ := H.fz e hb
 exact ⟨R.gnd, R.defers, R.size, ⟨_, ρ, K, S.trans T, sm, fun k => RepV.fz H e hb (r k)⟩⟩
def fzG (S : St) : List Nat -> (St -> Prop) -> Prop
 | [], K => K S
 | b :: l, K => match S.m b with
  | .arr s es => match zbz es with
   | some ds => fzG ⟨S.t.map fun kv => (kv.1, kv.2.fz b s ds), fzM S.m b s ds, S.n⟩ l K
   | none => False
  | _ => False
@[simp] theorem zpQ {S : St} {K : St -> Prop} : fzG S [] K = K S := (Eq.refl _).trans rfl
@[simp] theorem zn6 {S : St} {K : St -> Prop} {b : Nat} {l : List Nat} : fzG S (b :: l) K = (match S.m b with
  | .arr s es => match zbz es with
   | some ds => fzG ⟨S.t.map fun kv => (kv.1, kv.2.fz b s ds), fzM S.m b s ds, S.n⟩ l K
   | none => False
  | _ => False) := (Eq.refl _).trans rfl
theorem fzG.mono {K K' : St -> Prop} : ∀ (l : List Nat) {S : St}, fzG S l K -> (∀ S', K S' -> K' S') -> fzG S l K'
 | [], S, h, k => k S h
 | b :: l, S, h, k => by
  unfold fzG at h ⊢
  split
  ·rename_i s es eb
   rw [eb] at h
   simp only at h
   split
   ·rename_i ds ed
    rw [ed] at h
    exact fzG.mono l h k
   ·rename_i ed
    rw [ed] at h
    exact h
  ·rename_i hn
   split at h
   ·rename_i s es eb
    exact (hn s es eb).elim
   ·exact h
theorem zas (t : List (Nat × AV)) (b s : Nat) (ds : List (List D)) (k : Nat) : look (t.map fun kv => (kv.1, kv.2.fz b s ds)) k = (look t k).fz b s ds := by
 induction t with
 | nil => rfl
 | cons x t ih =>
  obtain ⟨j, v⟩ := x
  simp only [List.map_cons, look]
  split
  ·rfl
  ·exact ih
theorem AW.fzq {P : Program} {c : Ctx} {mc : MC} {Q : Exit -> St -> Prop} : ∀ (l : List Nat) {S : St}, fzG S l (fun S' => AW P c mc Q S') -> AW P c (.fzq mc) Q S
 | [], S, h => fun code hc a w r => h code (by simpa [chkC] using hc) a w r
 | b :: l, S, h => by
  unfold fzG at h
  split at h
  ·rename_i s es eb
   split at h
   ·rename_i ds ed
    have := zjK ed
    subst this
    have k := AW.fzq l h
    intro code hc a w r
    refine k code hc a w ?_
    have := r.fz eb
    have eg : (St.get ⟨S.t.map fun kv => (kv.1, kv.2.fz b s ds), fzM S.m b s ds, S.n⟩) = fun k => (S.get k).fz b s ds := funext fun k => zas _ _ _ _ _
    rw [eg]
    exact this
   ·exact h.elim
  ·exact h.elim
end Go.Abs
namespace Go.Abs
inductive OwP where
 | t (k : Nat)
 | c (b i : Nat)
 | a (k i : Nat)
section
variable {h : PH} {ρ : RM} {m : Hp} {w : Heap}
theorem HRel.reblk (H : HRel h ρ m w) {b : Nat} {p : Nat × Nat} (e : ρ b = some p) {blk : Blk} (hn : blk ≠ .non) (hr : Real blk p ↔ Real (m b) p) (r : zaC h ρ p blk w) :
  HRel h ρ (upd m b blk) w /\ Step h ρ m w h ρ (upd m b blk) w := by
 have key : ∀ c q, ρ c = some q -> (Real (upd m b blk c) q ↔ Real (m c) q) := fun c q hq => by
  by_cases hc : c = b
  ·subst hc; rw [zaq]; rw [e] at hq; cases hq; exact hr
  ·rw [zat _ _ hc]
 refine ⟨⟨H.pers, ?_, ?_, ?_, ?_⟩, ⟨PH.le_refl h, fun B hB _ => rfl, RM.le_refl _, Nat.le_refl _, fun B hB _ => rfl, ?_⟩⟩
 ·intro c
  by_cases hc : c = b
  ·subst hc; rw [zaq, e]; simp [hn]
  ·rw [zat _ _ hc]; exact H.dom c
 ·intro c q hq
  by_cases hc : c = b
  ·subst hc; rw [zaq]; rw [e] at hq; cases hq; exact r
  ·rw [zat _ _ hc]; exact H.own c q hq
 ·intro c d q r hc hd hs ht heq
  exact H.inj c d q r hc hd ((key c q hc).1 hs) ((key d r hd).1 ht) heq
 ·intro c q hq hs
  exact H.sep c q hq ((key c q hq).1 hs)
 ·intro c q hq hs
  exact .inr ⟨c, q, hq, (key c q hq).1 hs, rfl⟩
theorem RepC.own {s n : Nat} {v : Value} (e : ρ n = some (0, 0)) (r : RepC h ρ (.d (.sl true s [])) v) : RepC h ρ (.msl s n 0 0) v := by
 simp only [RepC, RepD] at r ⊢
 obtain ⟨a, cap, r1, r2, r3, r4, r5, r6, r7⟩ := r
 have hc : cap = 0 := by simpa using r3 trivial
 subst hc
 exact ⟨(0, 0), a, e, by simpa using r1, Nat.le_refl _, fun h => absurd h (by simp), fun q _ h => absurd h (by simp)⟩
theorem zad.setAt {c' : AC} : ∀ {cs : List AC} {vs : List Value} {i : Nat} {c : AC}, cs[i]? = some c -> (∀ v : Value, RepC h ρ c v -> RepC h ρ c' v) -> zad h ρ cs vs -> zad h ρ (cs.set i c') vs
 | [], vs, i, c, e, _, _ => by simp at e
 | _ :: _, [], _, _, _, _, r => by simp [zad] at r
 | d :: cs, v :: vs, 0, c, e, hc, r => by
  simp only [List.getElem?_cons_zero, Option.some.injEq] at e
  subst e
  simp only [zad, List.set_cons_zero] at r ⊢
  exact ⟨⟨r.1.1, hc v r.1.2⟩, r.2⟩
 | d :: cs, v :: vs, i + 1, c, e, hc, r => by
  simp only [List.getElem?_cons_succ] at e
  simp only [zad, List.set_cons_succ] at r ⊢
  exact ⟨r.1, zad.setAt e hc r.2⟩
end
def owG (S : St) : List OwP -> (St -> Prop) -> Prop
 | [], K => K S
 | .t k :: l, K => match S.get k with
  | .c (.d (.sl true s [])) => S.m S.n = .non /\ owG ⟨(k, .c (.msl s S.n 0 0)) :: S.t, upd S.m S.n (.arr s []), S.n + 1⟩ l K
  | _ => False
 | .a k i :: l, K => match S.get k with
  | .ag cs => match cs[i]? with
   | some (.d (.sl true s [])) => S.m S.n = .non /\ owG ⟨(k, .ag (cs.set i (.msl s S.n 0 0))) :: S.t, upd S.m S.n (.arr s []), S.n + 1⟩ l K
   | _ => False
  | _ => False
 | .c b i :: l, K => match S.m b with
  | .box cs => match cs[i]? with
   | some (.d (.sl true s [])) => S.m S.n = .non /\ owG ⟨S.t, upd (upd S.m S.n (.arr s [])) b (.box (cs.set i (.msl s S.n 0 0))), S.n + 1⟩ l K
   | _ => False
  | _ => False
@[simp] theorem zw7 {S : St} {K : St -> Prop} : owG S [] K = K S := (Eq.refl _).trans rfl
@[simp] theorem zxR {S : St} {K : St -> Prop} {k : Nat} {l : List OwP} : owG S (.t k :: l) K = (match S.get k with
  | .c (.d (.sl true s [])) => S.m S.n = .non /\ owG ⟨(k, .c (.msl s S.n 0 0)) :: S.t, upd S.m S.n (.arr s []), S.n + 1⟩ l K
  | _ => False) := (Eq.refl _).trans rfl
@[simp] theorem zxS {S : St} {K : St -> Prop} {b i : Nat} {l : List OwP} : owG S (.c b i :: l) K = (match S.m b with
  | .box cs => match cs[i]? with
   | some (.d (.sl true s [])) => S.m S.n = .non /\ owG ⟨S.t, upd (upd S.m S.n (.arr s [])) b (.box (cs.set i (.msl s S.n 0 0))), S.n + 1⟩ l K
   | _ => False
  | _ => False) := (Eq.refl _).trans rfl
theorem owG.mono {K K' : St -> Prop} : ∀ (l : List OwP) {S : St}, owG S l K -> (∀ S', K S' -> K' S') -> owG S l K'
 | [], S, h, k => k S h
 | .t i :: l, S, h, k => by
  unfold owG at h ⊢
  split <;> rename_i q
  ·rename_i s
   rw [q] at h
   exact ⟨h.1, owG.mono l h.2 k⟩
  ·split at h
   ·rename_i s e; exact (q s e).elim
   ·exact h
 | .a j i :: l, S, h, k => by
  unfold owG at h ⊢
  split <;> rename_i q
  ·rename_i cs
   rw [q] at h
   simp only at h
   split <;> rename_i q'
   ·rename_i s
    rw [q'] at h
    exact ⟨h.1, owG.mono l h.2 k⟩
   ·split at h
    ·rename_i s e; exact (q' s e).elim
    ·exact h
  ·split at h
   ·rename_i s e; exact (q s e).elim
   ·exact h
 | .c b i :: l, S, h, k => by
  unfold owG at h ⊢
  split <;> rename_i q
  ·rename_i cs
   rw [q] at h
   simp only at h
   split <;> rename_i q'
   ·rename_i s
    rw [q'] at h
    exact ⟨h.1, owG.mono l h.2 k⟩
   ·split at h
    ·rename_i s e; exact (q' s e).elim
    ·exact h
  ·split at h
   ·rename_i s e; exact (q s e).elim
   ·exact h
section
variable {P : Program} {c : Ctx} {S : St} {a : Act} {w : World}
theorem Rel.own0 (R : Rel P c S.get S.m a w) (hn : S.m S.n = .non) (s : Nat) :
  ∃ (h : PH) (ρ : RM), HRel h ρ (upd S.m S.n (.arr s [])) w.heap /\ zdD c.h c.ρ c.m c.w.heap h ρ (upd S.m S.n (.arr s [])) w.heap /\ Same c.w w /\ (∀ k, RepV h ρ (S.get k) (a.tmps.getD k undef)) /\ ρ S.n = some (0, 0) := by
 obtain ⟨h, ρ, H, S0, sm, r⟩ := R.ex
 obtain ⟨K, T⟩ := H.none hn s
 exact ⟨h, _, K, S0.trans T, sm, fun k => RepV.mono T.hle T.rle _ _ (r k), zaq _ _ _⟩
end
theorem AW.owq {P : Program} {c : Ctx} {mc : MC} {Q : Exit -> St -> Prop} : ∀ (l : List OwP) {S : St}, owG S l (fun S' => AW P c mc Q S') -> AW P c (.owq mc) Q S
 | [], S, h => fun code hc a w r => h code (by simpa [chkC] using hc) a w r
 | .t k :: l, S, h => by
  unfold owG at h
  split at h
  ·rename_i s e
   have k := AW.owq l h.2
   intro code hc a w r
   refine k code hc a w ?_
   obtain ⟨hh, ρ, H, S0, sm, rr, e0⟩ := r.own0 h.1 s
   refine ⟨r.gnd, r.defers, r.size, hh, ρ, H, S0, sm, fun j => ?_⟩
   show RepV hh ρ (look _ j) _
   simp only [look]
   split
   ·rename_i ej
    subst ej
    have := rr j
    rw [e] at this
    simp only [RepV] at this ⊢
    exact this.own e0
   ·exact rr j
  ·exact h.elim
 | .a k i :: l, S, h => by
  unfold owG at h
  split at h
  ·rename_i cs e
   split at h
   ·rename_i s e'
    have k := AW.owq l h.2
    intro code hc a w r
    refine k code hc a w ?_
    obtain ⟨hh, ρ, H, S0, sm, rr, e0⟩ := r.own0 h.1 s
    refine ⟨r.gnd, r.defers, r.size, hh, ρ, H, S0, sm, fun j => ?_⟩
    show RepV hh ρ (look _ j) _
    simp only [look]
    split
    ·rename_i ej
     subst ej
     have := rr j
     rw [e] at this
     simp only [RepV, List.length_set] at this ⊢
     obtain ⟨vs, r1, r2, r3⟩ := this
     exact ⟨vs, r1, r2, r3.setAt e' fun v q => q.own e0⟩
    ·exact rr j
   ·exact h.elim
  ·exact h.elim
 | .c b i :: l, S, h => by
  unfold owG at h
  split at h
  ·rename_i cs e
   split at h
   ·rename_i s e'
    have k := AW.owq l h.2
    intro code hc a w r
    refine k code hc a w ?_
    obtain ⟨hh, ρ, H, S0, sm, rr, e0⟩ := r.own0 h.1 s
    have hne : b ≠ S.n := fun q => by rw [q, h.1] at e; cases e
    have hb : upd S.m S.n (.arr s []) b = .box cs := by rw [zat _ _ hne]; exact e
    have hρ : ρ b ≠ none := fun q => by have := (H.dom b).2 q; rw [hb] at this; cases this
    obtain ⟨p, ep⟩ := Option.ne_none_iff_exists'.1 hρ
    have hB := H.own b p ep
    rw [hb] at hB
    obtain ⟨vs, T, r1, r2, r3⟩ := hB
    obtain ⟨K, T⟩ := H.reblk (blk := .box (cs.set i (.msl s S.n 0 0))) ep (by simp) (by rw [hb]; exact Iff.rfl) ⟨vs, T, r1, by simpa using r2, r3.setAt e' fun v q => q.own e0⟩
    exact ⟨r.gnd, r.defers, r.size, hh, ρ, K, S0.trans T, sm, rr⟩
   ·exact h.elim
  ·exact h.elim
end Go.Abs
