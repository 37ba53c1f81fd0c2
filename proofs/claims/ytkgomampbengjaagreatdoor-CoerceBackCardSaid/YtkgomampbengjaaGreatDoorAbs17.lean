/- Codes of functions, their walks by rules, and the contract that a walk gives. -/
import Derived.Test.YtkgomampbengjaaGreatDoorAbs16
set_option linter.unusedVariables false
set_option linter.unusedSimpArgs false
namespace Go.Abs

inductive MC where
  | skip
  | reg (os : List MO)
  | regd (bef : List Nat) (os : List MO)
  | seq (a b : MC)
  | cond (x : MX) (a b : MC)
  | block (id : Nat) (b : MC)
  | loop (b : MC)
  | exit (id : Nat)
  | ret
  | fzq (a : MC)
  | owq (a : MC)

def chkC (P : Program) (N : Nat) : MC → Code → Bool
  | .skip, .skip => true
  | .reg os, .region _ ops d => !d && chkMOs P N ops os ops.toList
  | .regd bef os, .region _ ops d => d && chkMOs P N ops os ops.toList && okEdges ops bef && okTmps ops bef
  | .seq a b, .seq a' b' => chkC P N a a' && chkC P N b b'
  | .cond x a b, .cond o a' b' => chkX x o && chkC P N a a' && chkC P N b b'
  | .block i b, .block i' b' => i == i' && chkC P N b b'
  | .loop b, .loop b' => chkC P N b b'
  | .exit i, .exit i' => i == i'
  | .ret, .ret => true
  | .fzq a, c => chkC P N a c
  | .owq a, c => chkC P N a c
  | _, _ => false

def AW (P : Program) (c : Ctx) (mc : MC) (Q : Exit → St → Prop) (S : St) : Prop :=
  ∀ code : Code, chkC P c.N mc code = true → ∀ (a : Act) (w : World), Rel P c S.get S.m a w → code.wp P (fun e a' w' => ∃ S' : St, Rel P c S'.get S'.m a' w' ∧ Q e S') a w

def thenQ (K : St → Prop) (Q : Exit → St → Prop) : Exit → St → Prop
  | .normal, S => K S
  | e, S => Q e S
def blockQ (id : Nat) (Q : Exit → St → Prop) : Exit → St → Prop
  | .exit i, S => if i = id then Q .normal S else Q (.exit i) S
  | e, S => Q e S

section
variable {P : Program} {c : Ctx} {Q : Exit → St → Prop} {S : St}

theorem AW.mono {mc : MC} {Q' : Exit → St → Prop} (h : AW P c mc Q S) (hq : ∀ e S, Q e S → Q' e S) : AW P c mc Q' S := fun code hc a w r =>
  wp_mono (h code hc a w r) fun e a' w' ⟨S', r', q⟩ => ⟨S', r', hq e S' q⟩

theorem AW.skip (h : Q .normal S) : AW P c .skip Q S := by
  intro code hc a w r
  cases code <;> simp [chkC] at hc
  exact wp_skip ⟨S, r, h⟩

theorem AW.exit {id : Nat} (h : Q (.exit id) S) : AW P c (.exit id) Q S := by
  intro code hc a w r
  cases code <;> simp [chkC] at hc
  subst hc
  exact wp_exit ⟨S, r, h⟩

theorem AW.ret (h : Q .ret S) : AW P c .ret Q S := by
  intro code hc a w r
  cases code <;> simp [chkC] at hc
  exact wp_ret ⟨S, r, h⟩

theorem AW.seq {x y : MC} (h : AW P c x (thenQ (AW P c y Q) Q) S) : AW P c (.seq x y) Q S := by
  intro code hc a w r
  cases code with
  | seq x' y' =>
    simp only [chkC, Bool.and_eq_true] at hc
    refine wp_seq (wp_mono (h x' hc.1 a w r) fun e a' w' ⟨S', r', q⟩ => ?_)
    cases e with
    | normal => exact q y' hc.2 a' w' r'
    | _ => exact ⟨S', r', q⟩
  | _ => simp [chkC] at hc

theorem AW.cond {x : MX} {a b : MC} {t : Bool} (e : X S.get x = .c (.d (.bool t))) (h1 : t = true → AW P c a Q S) (h2 : t = false → AW P c b Q S) : AW P c (.cond x a b) Q S := by
  intro code hc ac w r
  cases code with
  | cond o a' b' =>
    simp only [chkC, Bool.and_eq_true] at hc
    obtain ⟨ph, ρ, H, S0, e0, hg⟩ := r.ex
    have r1 := chkX_ok hc.1.1 (ph := ph) (ρ := ρ) (get := S.get) (a := ac) fun k _ => hg k
    rw [e] at r1
    simp only [RepV, RepC, RepD] at r1
    exact wp_cond_split r1 (fun ht => h1 ht a' hc.1.2 ac w r) (fun ht => h2 ht b' hc.2 ac w r)
  | _ => simp [chkC] at hc

/-- a branch at a truth that is not known -/
theorem AW.condU {x : MX} {a b : MC} {q : Value → Prop} (e : X S.get x = .c (.op q)) (hq : ∀ v, q v → isBoolV v) (h1 : AW P c a Q S) (h2 : AW P c b Q S) : AW P c (.cond x a b) Q S := by
  intro code hc ac w r
  cases code with
  | cond o a' b' =>
    simp only [chkC, Bool.and_eq_true] at hc
    obtain ⟨ph, ρ, H, S0, e0, hg⟩ := r.ex
    have r1 := chkX_ok hc.1.1 (ph := ph) (ρ := ρ) (get := S.get) (a := ac) fun k _ => hg k
    rw [e] at r1
    simp only [RepV, RepC] at r1
    obtain ⟨t, r1⟩ := hq _ r1
    exact wp_cond_split r1 (fun ht => h1 a' hc.1.2 ac w r) (fun ht => h2 b' hc.2 ac w r)
  | _ => simp [chkC] at hc

theorem AW.block {id : Nat} {b : MC} (h : AW P c b (blockQ id Q) S) : AW P c (.block id b) Q S := by
  intro code hc a w r
  cases code with
  | block id' b' =>
    simp only [chkC, Bool.and_eq_true, beq_iff_eq] at hc
    obtain ⟨h1, h2⟩ := hc
    subst h1
    refine wp_block (wp_mono (h b' h2 a w r) fun e a' w' ⟨S', r', q⟩ => ?_)
    cases e with
    | exit i =>
      simp only [blockQ] at q
      simp only [Exit.inBlock]
      split
      · rename_i hh; rw [if_pos hh] at q; exact ⟨S', r', q⟩
      · rename_i hh; rw [if_neg hh] at q; exact ⟨S', r', q⟩
    | _ => exact ⟨S', r', q⟩
  | _ => simp [chkC] at hc

theorem AW.reg {os : List MO} (h : runO P os S (fun S' => Q .normal S')) : AW P c (.reg os) Q S := by
  intro code hc a w r
  cases code with
  | region id ops d =>
    simp only [chkC, Bool.and_eq_true, Bool.not_eq_true'] at hc
    obtain ⟨h1, h2⟩ := hc
    subst h1
    refine wp_region ?_
    have hl := chkMOs_len h2
    have := runO_ok (Q := fun e a' w' => ∃ S' : St, Rel P c S'.get S'.m a' w' ∧ Q e S') (K := fun S' => Q .normal S') (fun S a w r k => ⟨S, r, k⟩) (i := 0) h2 (fun j o hj => by simpa using hj) h r
    rw [List.range_eq_range']
    simpa using this
  | _ => simp [chkC] at hc

theorem AW.regd {bef : List Nat} {os : List MO} (hm : P.follows .mixedOrders = true) (h : runD P os S [] (fun S' fps => okFps bef fps = true ∧ Q .normal S')) : AW P c (.regd bef os) Q S := by
  intro code hc a w r
  cases code with
  | region id ops d =>
    simp only [chkC, Bool.and_eq_true] at hc
    obtain ⟨⟨⟨h1, h2⟩, h3⟩, h4⟩ := hc
    subst h1
    obtain ⟨es, S', t1, t2, t3, t4⟩ := runD_tr h2 h
    simp only [List.reverse_nil, List.nil_append] at t4
    refine wp_region_any hm ?_
    have none : ∀ {β : Type} (l : List (List (Nat × β))) (i : Nat) (f : Nat → β), selF (lst (Array.replicate ops.size false)) i f l = f := by
      intro β l
      induction l with
      | nil => intro i f; rfl
      | cons x l ih =>
        intro i f
        have : lst (Array.replicate ops.size false) i = false := by
          unfold lst
          simp only [Array.getD_eq_getD_getElem?, Array.getElem?_replicate]
          split <;> rfl
        simp only [selF, this]
        exact ih _ _
    refine drawn_any h2 t1 h3 h4 t4.1 (fun a w r => ⟨S', by rw [t2, t3]; exact r, t4.2⟩) ops.size _ a _ (by simp) ?_ (fun j i hj _ _ => ?_) ?_
    · have : cnt (Array.replicate ops.size false) = 0 := by
        unfold cnt
        simp
      omega
    · unfold lst at hj
      simp only [Array.getD_eq_getD_getElem?, Array.getElem?_replicate] at hj
      split at hj <;> simp at hj
    · rw [none, none]
      obtain ⟨ph, ρ, H, S0, e0, hg⟩ := r.ex
      exact ⟨r.gnd, r.defers, r.size, ph, ρ, H, S0, ⟨e0.1, e0.2.1, e0.2.2⟩, hg⟩
  | _ => simp [chkC] at hc

/-! ### a state seen with other numbers, and with less known -/

def hd (t : List (Nat × AV)) (bs : List Blk) : St := ⟨t, hpOf bs, bs.length⟩

def tAll (S : St) (l : List Nat) : List (Nat × AV) → Prop
  | [] => True
  | (k, v) :: t => (S.get k = v.ren (fOf l) ∧ v.lt l.length = true) ∧ tAll S l t
def mAll (S : St) (l : List Nat) : List Nat → List Blk → Prop
  | [], [] => True
  | j :: js, b :: bs => (S.m j = b.ren (fOf l) ∧ b.lt l.length = true) ∧ mAll S l js bs
  | _, _ => False

/-- S may be seen as the state of these temporaries and these blocks -/
def Match (l : List Nat) (S : St) (t : List (Nat × AV)) (bs : List Blk) : Prop := l.Nodup ∧ tAll S l t ∧ mAll S l l bs

theorem look_tAll {S : St} {l : List Nat} : ∀ {t : List (Nat × AV)}, tAll S l t → ∀ k, look t k = .c (.d .any) ∨ (S.get k = (look t k).ren (fOf l) ∧ (look t k).lt l.length = true)
  | [], _, k => .inl rfl
  | (j, v) :: t, h, k => by
    simp only [tAll] at h
    simp only [look]
    split
    · rename_i e; subst e; exact .inr h.1
    · exact look_tAll h.2 k

theorem mAll_at {S : St} {l : List Nat} : ∀ {js : List Nat} {bs : List Blk}, mAll S l js bs → js.length = bs.length ∧ ∀ i, i < js.length → S.m (js.getD i 0) = (bs.getD i .non).ren (fOf l) ∧ (bs.getD i .non).lt l.length = true
  | [], [], _ => ⟨rfl, fun i hi => by simp at hi⟩
  | [], _ :: _, h => by simp [mAll] at h
  | _ :: _, [], h => by simp [mAll] at h
  | j :: js, b :: bs, h => by
    simp only [mAll] at h
    obtain ⟨h1, h2⟩ := mAll_at h.2
    refine ⟨by simp [h1], fun i hi => ?_⟩
    cases i with
    | zero => simpa using h.1
    | succ i => simpa using h2 i (by simpa using hi)

/-- nothing of the caller's own is in hand -/
def Ctx.pure (_ : Ctx) : Prop := True

theorem Rel.view (hp : c.pure) {l : List Nat} {S : St} {t : List (Nat × AV)} {bs : List Blk} {a : Act} {w : World} (hm : Match l S t bs) (r : Rel P c S.get S.m a w) : Rel P c (hd t bs).get (hd t bs).m a w := by
  obtain ⟨hnd, ht, hb⟩ := hm
  obtain ⟨hlen, hb⟩ := mAll_at hb
  obtain ⟨ph, ρ, H, S0, e0, hg⟩ := r.ex
  have at_ : ∀ b, b < l.length → S.m (fOf l b) = (hpOf bs b).ren (fOf l) ∧ (hpOf bs b).lt l.length = true := fun b hbl => hb b hbl
  have inj : ∀ b c, b < l.length → c < l.length → fOf l b = fOf l c → b = c := by
    intro b c h1 h2 e
    unfold fOf at e
    rw [List.getD_eq_getElem?_getD, List.getD_eq_getElem?_getD, List.getElem?_eq_getElem h1, List.getElem?_eq_getElem h2] at e
    simp only [Option.getD_some] at e
    exact (List.getElem?_inj h1 hnd).1 (by rw [List.getElem?_eq_getElem h1, List.getElem?_eq_getElem h2, e])
  have beyond : ∀ b, ¬ b < l.length → hpOf bs b = .non := by
    intro b hb'
    unfold hpOf
    rw [List.getD_eq_getElem?_getD, List.getElem?_eq_none (by omega)]
    rfl
  have rs : ∀ {b : Nat} {p : Nat × Nat}, rmR (fOf l) l.length ρ b = some p → b < l.length ∧ ρ (fOf l b) = some p := by
    intro b p h
    unfold rmR at h
    split at h
    · exact ⟨by assumption, h⟩
    · cases h
  refine ⟨r.gnd, r.defers, r.size, ph, rmR (fOf l) l.length ρ, ⟨H.pers, ?_, ?_, ?_, ?_⟩, ⟨S0.hle, S0.hlow, S0.size, S0.frame, ?_⟩, e0, fun k => ?_⟩
  · intro b
    show hpOf bs b = .non ↔ _
    unfold rmR
    by_cases hbl : b < l.length
    · rw [if_pos hbl, ← H.dom, (at_ b hbl).1]
      cases hpOf bs b <;> simp [Blk.ren]
    · rw [if_neg hbl]; simp [beyond b hbl]
  · intro b p hp'
    obtain ⟨h1, h2⟩ := rs hp'
    have := H.own _ p h2
    rw [(at_ b h1).1] at this
    exact BlkRep.ren (at_ b h1).2 this
  · intro b c' p q h1 h2 hr hs e
    obtain ⟨g1, g2⟩ := rs h1
    obtain ⟨g3, g4⟩ := rs h2
    refine inj b c' g1 g3 (H.inj _ _ p q g2 g4 ?_ ?_ e)
    · rw [(at_ b g1).1]; exact Real.ren.2 hr
    · rw [(at_ c' g3).1]; exact Real.ren.2 hs
  · intro b p h1 hr
    obtain ⟨g1, g2⟩ := rs h1
    exact H.sep _ p g2 (by rw [(at_ b g1).1]; exact Real.ren.2 hr)
  · intro b p h1 hr
    obtain ⟨g1, g2⟩ := rs h1
    exact S0.own _ p g2 (by rw [(at_ b g1).1]; exact Real.ren.2 hr)
  · have rk := hg k
    show RepV ph (rmR (fOf l) l.length ρ) (look t k) _
    rcases look_tAll ht k with h1 | ⟨h1, h2⟩
    · rw [h1]; simp [RepV, RepC, RepD]
    · rw [h1] at rk
      exact RepV.ren _ _ h2 rk

theorem AW.view (hp : c.pure) {mc : MC} {l : List Nat} {t : List (Nat × AV)} {bs : List Blk} (hm : Match l S t bs) (h : AW P c mc Q (hd t bs)) : AW P c mc Q S :=
  fun code hc a w r => h code hc a w (Rel.view hp hm r)

/-- a loop -/
theorem AW.loop {Y : Type} (hp : c.pure) {body : MC} (I : Y → Prop) (t : Y → List (Nat × AV)) (bs : Y → List Blk) (μ : Y → Nat) {x0 : Y} {l0 : List Nat} (hI : I x0) (h0 : Match l0 S (t x0) (bs x0))
    (round : ∀ x, I x → AW P c body (thenQ (fun S' => ∃ x' l, I x' ∧ Match l S' (t x') (bs x') ∧ μ x' < μ x) Q) (hd (t x) (bs x))) : AW P c (.loop body) Q S := by
  intro code hc a w r
  cases code with
  | loop b =>
    simp only [chkC] at hc
    intro fr k cs
    have key : ∀ n : Nat, ∀ x, μ x = n → I x → ∀ a w, Rel P c (hd (t x) (bs x)).get (hd (t x) (bs x)).m a w →
        ∃ e a' w', (∃ S' : St, Rel P c S'.get S'.m a' w' ∧ Q e S') ∧ Arrives P (lone (fr.at a (.code b :: .inLoop b :: k)) cs w) fr k cs e a' w' := by
      intro n
      induction n using Nat.strongRecOn with
      | _ n ih =>
        intro x hn hx a w r
        obtain ⟨e, a₁, w₁, ⟨S', r', q⟩, harr⟩ := round x hx b hc a w r fr (.inLoop b :: k) cs
        cases e with
        | normal =>
          obtain ⟨x', l, hx', hm, hlt⟩ := q
          obtain ⟨e₂, a₂, w₂, hq₂, harr₂⟩ := ih (μ x') (hn ▸ hlt) x' rfl hx' a₁ w₁ (Rel.view hp hm r')
          exact ⟨e₂, a₂, w₂, hq₂, .of_steps (Steps.trans harr (.one step_inLoop)) harr₂⟩
        | exit id => exact ⟨_, a₁, w₁, ⟨S', r', q⟩, .pass (x := .inLoop b) rfl (fun _ _ => .inl (by simp)) harr⟩
        | goto l => exact ⟨_, a₁, w₁, ⟨S', r', q⟩, .pass (x := .inLoop b) rfl (fun _ _ => .inl (by simp)) harr⟩
        | ret => exact ⟨_, a₁, w₁, ⟨S', r', q⟩, .pass (x := .inLoop b) rfl (fun _ _ => .inl (by simp)) harr⟩
        | panic ch => exact ⟨_, a₁, w₁, ⟨S', r', q⟩, .pass (x := .inLoop b) rfl (fun _ _ => .inl (by simp)) harr⟩
        | outgrown => exact ⟨_, a₁, w₁, ⟨S', r', q⟩, .pass (x := .inLoop b) rfl (fun _ _ => .inl (by simp)) harr⟩
    obtain ⟨e, a', w', hq, harr⟩ := key _ x0 rfl hI a w (Rel.view hp h0 r)
    exact ⟨e, a', w', hq, .of_steps (.one step_loop) harr⟩
  | _ => simp [chkC] at hc

end
end Go.Abs
