/- The abstract operations (2): what they are, what they do, and the check against the program's own. -/
import Derived.Test.YtkgomampbengjaaGreatDoorAbsR
set_option linter.unusedVariables false
set_option linter.unusedSimpArgs false
namespace Go.Abs

inductive MOp where
  | mv (x : MX)
  | pick (c a b : MX)
  | binI (op : BinOp) (x y : MX)
  | divI (op : BinOp) (x y : MX)
  | binS (op : BinOp) (x y : MX)
  | cat (x y : MX)
  | binB (op : BinOp) (x y : MX)
  | not (x : MX)
  | neg (x : MX)
  | convI (k : IntKind) (x : MX)
  | boxP (x : MX)
  | boxM (x : MX)
  | alloc (z : List D)
  | build (z : List D) (ps : List (Nat × Nat × MX))
  | buildSl (s : Nat) (xs : List MX)
  | buildSlM (s : Nat) (xs : List MX)
  | load (ag : Bool) (sz : Nat) (x : MX)
  | store (sz : Nat) (a v : MX)
  | faddr (off : Nat) (x : MX)
  | field (ag : Bool) (off sz : Nat) (x : MX)
  | iaddrS (s : Nat) (x i : MX)
  | iaddrA (len s : Nat) (x i : MX)
  | idxA (ag : Bool) (len s : Nat) (x i : MX)
  | idxS (x i : MX)
  | len (x : MX)
  | lenS (x : MX)
  | nilck (x : MX)
  | extract (x : MX) (i : Nat)
  | slice (s : Nat) (x : MX) (lo hi : Option MX)
  | slice00 (s : Nat) (x : MX)
  | sliceS (x : MX) (lo hi : Option MX)
  | append (s bytes : Nat) (x y : MX)
  | mkfn (f : FuncId) (caps : List MX)
  | call (f : FuncId) (xs : List MX)
  | calld (x : MX) (xs : List MX)
  | cmpS (f : FuncId) (x y : MX)
  | mkmap
  | mlook (kk : Nat) (ok ag : Bool) (z : List D) (x k : MX)
  | mset (kk : Nat) (x k v : MX)
  | mdel (kk : Nat) (x k : MX)
  | mlen (x : MX)
  | mksl (z : List D) (bytes : Nat) (x : MX)
  | mkslM (z : List D) (bytes : Nat) (x y : MX)
  | eqAg (ne : Bool) (ks : List Nat) (x y : MX)
  | callM (f : FuncId) (xs : List MX)
  | calldM (x : MX) (xs : List MX)
  | isNil (ne : Bool) (x : MX)
  | isNilP (ne : Bool) (x : MX)
  | minI (mx : Bool) (x y : MX)

/-- the lesser, or the greater, of two -/
def mmI (mx : Bool) (a b : Int) : Int := if mx = true then (if b > a then b else a) else (if b < a then b else a)

/-- some truth -/
def isBoolV (v : Value) : Prop := ∃ t, v = .bool t

/-- are two keys the same: numbers, strings, truths -/
def kEq : Nat → D → D → Option Bool
  | 0, .int k a, .int k' b => if k = k' then some (decide (a = b)) else none
  | 1, .str a, .str b => some (decide (a = b))
  | 2, .bool a, .bool b => some (a == b)
  | _, _, _ => none
def mfind (kk : Nat) (d : D) : List (D × AV) → Nat → Option (Option (Nat × AV))
  | [], _ => some none
  | e :: es, i => match kEq kk d e.1 with
    | some true => some (some (i, e.2))
    | some false => mfind kk d es (i + 1)
    | none => none
def aval (ag : Bool) (z : List D) : AV := match ag with
  | true => .ag (z.map .d)
  | false => .c (.d (z.headD .any))
def eqL : List Nat → List D → List D → Option Bool
  | [], [], [] => some true
  | k :: ks, a :: as, b :: bs => match kEq k a b, eqL ks as bs with
    | some x, some y => some (x && y)
    | _, _ => none
  | _, _, _ => none

/-- the name under which the machine compares two strings -/
def cmpName : String := (Extern.BytealgCompare.rows.map (·.1)).getLastD default

def callee (P : Program) (f : FuncId) : Bool := match P.funcs[f]? with | some fn => fn.name != "runtime.NumGoroutine" && fn.body.isSome | none => false

/-- a call that neither turns nor keeps anything that is there: handed such data, it answers such data -/
def PCall (P : Program) (f : FuncId) (args : List DV) (v : DV) : Prop :=
  callee P f = true ∧ ∀ (h : PH) (w : World) (argsC : List Value), (∀ B o, h B = some o → w.heap[B]? = some o) → Gnd P h → RepDVL h args argsC →
    Calls P f argsC.toArray w fun e w' => ∃ (vC : Value) (h' : PH), e = .returned vC ∧ h.le h' ∧ (∀ B, B < w.heap.size → h' B = h B) ∧ (∀ B o, h' B = some o → w'.heap[B]? = some o) ∧
      w.heap.size ≤ w'.heap.size ∧ (∀ B, B < w.heap.size → w'.heap[B]? = w.heap[B]?) ∧ Same w w' ∧ RepDV h' v vC

/-- a call that is handed blocks of the caller's own (numbered from 0 on), and leaves them so; new ones behind them -/
def MCall (P : Program) (f : FuncId) (args : List AV) (bs : List Blk) (v : AV) (bs' : List Blk) : Prop :=
  callee P f = true ∧ bs.length ≤ bs'.length ∧ (∀ i, i < bs'.length → hpOf bs' i ≠ .non) ∧ v.lv (live bs') = true ∧ (∀ b, b ∈ bs' → b.lv (live bs') = true) ∧
  ∀ (h : PH) (ρ : RM) (w : World) (argsC : List Value), HRel h ρ (hpOf bs) w.heap → Gnd P h → RepVL h ρ args argsC →
    Calls P f argsC.toArray w fun e w' => ∃ (vC : Value) (h' : PH) (ρ' : RM), e = .returned vC ∧ StepW h ρ (hpOf bs) w.heap h' ρ' (hpOf bs') w'.heap ∧ HRel h' ρ' (hpOf bs') w'.heap ∧ Same w w' ∧ RepV h' ρ' v vC ∧ ∀ i, i < bs.length → ρ' i = ρ i

/-- such a call, seen by a caller who knows the blocks by the numbers l -/
def mcallB (P : Program) (f : FuncId) (vs : List AV) (m : Hp) (n : Nat) (K : AV → List Nat → List (Nat × Blk) → Nat → Prop) : Prop :=
  ∃ (l : List Nat) (args : List AV) (bs : List Blk) (v : AV) (bs' : List Blk), MCall P f args bs v bs' ∧ l.Nodup ∧ (∀ i, i ∈ l → i < n) ∧ vs = AV.rens (fOf l) args ∧ AV.lts l.length args = true ∧ (∀ b, b ∈ bs → b.lt l.length = true) ∧ atL m (fOf l) l bs ∧ freshB m n (bs'.length - bs.length) ∧
    K (v.ren (fOf (l ++ newN n (bs'.length - bs.length)))) [] (wrL (fOf (l ++ newN n (bs'.length - bs.length))) (l ++ newN n (bs'.length - bs.length)) bs') (n + (bs'.length - bs.length))

mutual
def DV.av : DV → AV
  | .one x => .c (.d x)
  | .agg cs => .ag (cs.map .d)
  | .tup vs => .tup (DV.avs vs)
def DV.avs : List DV → List AV
  | [] => []
  | v :: vs => DV.av v :: DV.avs vs
end

mutual
theorem RepDV.av {h : PH} {ρ : RM} : ∀ {x : DV} {v : Value}, RepDV h x v → RepV h ρ x.av v
  | .one x, v, r => by simp only [RepDV] at r; simp only [DV.av, RepV, RepC]; exact r
  | .agg cs, v, r => by
    simp only [RepDV] at r
    obtain ⟨vs, h1, h2, h3⟩ := r
    simp only [DV.av, RepV]
    exact ⟨vs, h1, by simpa using h2, RepCL.of_D h3⟩
  | .tup xs, v, r => by
    simp only [RepDV] at r
    obtain ⟨vs, h1, h2⟩ := r
    simp only [DV.av, RepV]
    exact ⟨vs, h1, RepDVL.avs h2⟩
theorem RepDVL.avs {h : PH} {ρ : RM} : ∀ {xs : List DV} {vs : List Value}, RepDVL h xs vs → RepVL h ρ (DV.avs xs) vs
  | [], vs, r => by simpa [RepDVL, DV.avs, RepVL] using r
  | _ :: _, [], r => by simp [RepDVL] at r
  | x :: xs, v :: vs, r => by
    simp only [RepDVL] at r
    simp only [DV.avs, RepVL]
    exact ⟨RepDV.av r.1, RepDVL.avs r.2⟩
end

def toDV : AV → Option DV
  | .c (.d x) => some (.one x)
  | .ag cs => (allD cs).map .agg
  | _ => none
def toDVs : List AV → Option (List DV)
  | [] => some []
  | v :: vs => match toDV v, toDVs vs with
    | some x, some xs => some (x :: xs)
    | _, _ => none

theorem toDV_ok {h : PH} {ρ : RM} {v : AV} {x : DV} {u : Value} (e : toDV v = some x) (r : RepV h ρ v u) : RepDV h x u := by
  unfold toDV at e
  split at e
  · cases e; simpa only [RepV, RepC, RepDV] using r
  · rename_i cs
    simp only [Option.map_eq_some_iff] at e
    obtain ⟨ds, h1, h2⟩ := e
    subst h2
    have := allD_ok h1
    subst this
    simp only [RepV] at r
    obtain ⟨vs, e1, e2, e3⟩ := r
    simp only [RepDV]
    exact ⟨vs, e1, by simpa using e2, RepCL.to_D e3⟩
  · cases e

theorem toDVs_ok {h : PH} {ρ : RM} : ∀ {vs : List AV} {xs : List DV} {us : List Value}, toDVs vs = some xs → RepVL h ρ vs us → RepDVL h xs us
  | [], xs, us, e, r => by simp [toDVs] at e; subst e; simpa [RepVL, RepDVL] using r
  | v :: vs, xs, [], e, r => by simp [RepVL] at r
  | v :: vs, xs, u :: us, e, r => by
    simp only [RepVL] at r
    simp only [toDVs] at e
    split at e
    · rename_i x xs' h1 h2
      cases e
      simp only [RepDVL]
      exact ⟨toDV_ok h1 r.1, toDVs_ok h2 r.2⟩
    · cases e

/-- a piece of a row; the whole of it as it stands -/
def cut {α : Type} (cs : List α) (off sz : Nat) : List α := if off = 0 ∧ cs.length = sz then cs else (cs.drop off).take sz
def put {α : Type} (cs : List α) (off : Nat) (l : List α) : List α := if off = 0 ∧ l.length = cs.length then l else splice cs off l

def ldC (ag : Bool) (sz : Nat) (cs : List AC) (off : Nat) (K : AV → Prop) : Prop :=
  match ag with
  | true => off + sz ≤ cs.length ∧ K (.ag (cut cs off sz))
  | false => match cs[off]? with
    | some c => K (.c c)
    | none => False
def ldD (ag : Bool) (sz : Nat) (cs : List D) (off : Nat) (K : AV → Prop) : Prop :=
  match ag with
  | true => off + sz ≤ cs.length ∧ K (.ag ((cut cs off sz).map .d))
  | false => match cs[off]? with
    | some c => K (.c (.d c))
    | none => False

def fillC (get : Nat → AV) : List AC → List (Nat × Nat × MX) → Option (List AC)
  | cs, [] => some cs
  | cs, (off, sz, x) :: ps => match cellsC (X get x) with
    | some l => if l.length = sz ∧ off + sz ≤ cs.length then fillC get (put cs off l) ps else none
    | none => none

def rowD (get : Nat → AV) (s : Nat) : List MX → Option (List (List D))
  | [] => some []
  | x :: xs => match cellsD (X get x), rowD get s xs with
    | some l, some r => if l.length = s then some (l :: r) else none
    | _, _ => none
def rowC (get : Nat → AV) (s : Nat) : List MX → Option (List (List AC))
  | [] => some []
  | x :: xs => match cellsC (X get x), rowC get s xs with
    | some l, some r => if l.length = s then some (l :: r) else none
    | _, _ => none

def capsC (get : Nat → AV) : List MX → Option (List AC)
  | [] => some []
  | x :: xs => match X get x, capsC get xs with
    | .c c, some r => if c.one then some (c :: r) else none
    | _, _ => none

/-- a bound of a slice expression -/
def bnd (get : Nat → AV) (d : Nat) (K : Nat → Prop) : Option MX → Prop
  | none => K d
  | some x => match X get x with
    | .c (.d (.int _ j)) => 0 ≤ j ∧ K j.toNat
    | _ => False

/-- what is appended -/
def srcs (get : Nat → AV) (m : Hp) (s : Nat) (K : List (List AC) → List Nat → Prop) (y : MX) : Prop :=
  match X get y with
  | .c (.d (.sl _ s' ys)) => s = s' ∧ K (ys.map (·.map .d)) []
  | .c (.msl s' b off len) => match m b with
    | .arr s'' es => s = s' ∧ s = s'' ∧ off + len ≤ es.length ∧ K ((es.drop off).take len) [b]
    | _ => False
  | _ => False

def ev (P : Program) (get : Nat → AV) (m : Hp) (n : Nat) (K : AV → List Nat → List (Nat × Blk) → Nat → Prop) : MOp → Prop
  | .mv x => K (X get x) [] [] n
  | .pick c a b => match X get c with
    | .c (.d (.bool t)) => (t = true → K (X get a) [] [] n) ∧ (t = false → K (X get b) [] [] n)
    | _ => False
  | .binI op x y => match X get x, X get y with
    | .c (.d (.int k a)), .c (.d (.int k' b)) => k = k' ∧ (match evI op k a b with | some d => K (.c (.d d)) [] [] n | none => False)
    | _, _ => False
  | .divI op x y => match X get x, X get y with
    | .c (.d (.int k a)), .c (.d (.int k' b)) => k = k' ∧ b ≠ 0 ∧ (match op with | .quo => K (.c (.d (.int k (k.wrap (a.tdiv b))))) [] [] n | .rem => K (.c (.d (.int k (a.tmod b)))) [] [] n | _ => False)
    | _, _ => False
  | .binS op x y => match X get x, X get y with
    | .c (.d (.str a)), .c (.d (.str b)) => (match evS op a b with | some d => K (.c (.d d)) [] [] n | none => False)
    | _, _ => False
  | .cat x y => match X get x, X get y with
    | .c (.d (.str a)), .c (.d (.str b)) => a.size + b.size ≤ lenMax ∧ K (.c (.d (.str (a ++ b)))) [] [] n
    | _, _ => False
  | .binB op x y => match X get x, X get y with
    | .c (.d (.bool a)), .c (.d (.bool b)) => (match evB op a b with | some d => K (.c (.d d)) [] [] n | none => False)
    | _, _ => False
  | .not x => match X get x with
    | .c (.d (.bool a)) => K (.c (.d (.bool (!a)))) [] [] n
    | _ => False
  | .neg x => match X get x with
    | .c (.d (.int k a)) => K (.c (.d (.int k (k.wrap (0 - a))))) [] [] n
    | _ => False
  | .convI k x => match X get x with
    | .c (.d (.int _ a)) => K (.c (.d (.int k (k.wrap a)))) [] [] n
    | _ => False
  | .boxP x => match cellsD (X get x) with
    | some ds => K (.c (.d (.rp ds 0))) [] [] n
    | none => False
  | .boxM x => match cellsC (X get x) with
    | some cs => m n = .non ∧ K (.c (.ptr n 0)) [] [(n, .box cs)] (n + 1)
    | none => False
  | .alloc z => m n = .non ∧ K (.c (.ptr n 0)) [] [(n, .box (z.map .d))] (n + 1)
  | .build z ps => match fillC get (z.map .d) ps with
    | some cs => K (.ag cs) [] [] n
    | none => False
  | .buildSl s xs => match rowD get s xs with
    | some es => K (.c (.d (.sl true s es))) [] [] n
    | none => False
  | .buildSlM s xs => match rowC get s xs with
    | some es => m n = .non ∧ K (.c (.msl s n 0 xs.length)) [] [(n, .arr s es)] (n + 1)
    | none => False
  | .load ag sz x => match X get x with
    | .c (.d (.rp cs off)) => ldD ag sz cs off fun v => K v [] [] n
    | .c (.ptr b off) => match m b with
      | .box cs => ldC ag sz cs off fun v => K v [b] [] n
      | _ => False
    | .c (.ept s b i off) => match m b with
      | .arr s' es => s = s' ∧ (match es[i]? with | some e => ldC ag sz e off fun v => K v [b] [] n | none => False)
      | _ => False
    | _ => False
  | .store sz a v => match X get a, cellsC (X get v) with
    | .c (.ptr b off), some l => match m b with
      | .box cs => l.length = sz ∧ off + sz ≤ cs.length ∧ K (.c (.d .any)) [] [(b, .box (put cs off l))] n
      | _ => False
    | .c (.ept s b i off), some l => match m b with
      | .arr s' es => s = s' ∧ l.length = sz ∧ off + sz ≤ s ∧ (match es[i]? with | some e => K (.c (.d .any)) [] [(b, .arr s (es.set i (put e off l)))] n | none => False)
      | _ => False
    | _, _ => False
  | .faddr off x => match X get x with
    | .c (.ptr b o) => K (.c (.ptr b (o + off))) [] [] n
    | .c (.ept s b i o) => K (.c (.ept s b i (o + off))) [] [] n
    | .c (.d (.rp cs o)) => K (.c (.d (.rp cs (o + off)))) [] [] n
    | _ => False
  | .field ag off sz x => match X get x with
    | .ag cs => ldC ag sz cs off fun v => K v [] [] n
    | _ => False
  | .iaddrS s x i => match X get x, X get i with
    | .c (.d (.sl _ s' es)), .c (.d (.int _ j)) => s = s' ∧ 0 ≤ j ∧ (match es[j.toNat]? with | some e => K (.c (.d (.rp e 0))) [] [] n | none => False)
    | .c (.msl s' b off len), .c (.d (.int _ j)) => s = s' ∧ 0 ≤ j ∧ j < len ∧ K (.c (.ept s b (off + j.toNat) 0)) [] [] n
    | _, _ => False
  | .iaddrA len s x i => match X get x, X get i with
    | .c (.ptr b o), .c (.d (.int _ j)) => 0 ≤ j ∧ j < len ∧ K (.c (.ptr b (o + j.toNat * s))) [] [] n
    | .c (.ept s' b i' o), .c (.d (.int _ j)) => 0 ≤ j ∧ j < len ∧ K (.c (.ept s' b i' (o + j.toNat * s))) [] [] n
    | .c (.d (.rp cs o)), .c (.d (.int _ j)) => 0 ≤ j ∧ j < len ∧ K (.c (.d (.rp cs (o + j.toNat * s)))) [] [] n
    | _, _ => False
  | .idxA ag len s x i => match X get x, X get i with
    | .ag cs, .c (.d (.int _ j)) => 0 ≤ j ∧ j < len ∧ ldC ag s cs (j.toNat * s) fun v => K v [] [] n
    | _, _ => False
  | .idxS x i => match X get x, X get i with
    | .c (.d (.str t)), .c (.d (.int _ j)) => 0 ≤ j ∧ (match t.data.toList[j.toNat]? with | some b => K (.c (.d (.int .u8 b.toNat))) [] [] n | none => False)
    | _, _ => False
  | .len x => match X get x with
    | .c (.d (.sl _ _ es)) => K (.c (.d (.int .i64 es.length))) [] [] n
    | .c (.msl _ b off l) => match m b with
      | .arr _ es => off + l ≤ es.length ∧ K (.c (.d (.int .i64 l))) [b] [] n
      | _ => False
    | _ => False
  | .lenS x => match X get x with
    | .c (.d (.str t)) => K (.c (.d (.int .i64 t.size))) [] [] n
    | _ => False
  | .nilck x => match X get x with
    | .c (.ptr b o) => K (.c (.ptr b o)) [] [] n
    | .c (.ept s b i o) => K (.c (.ept s b i o)) [] [] n
    | .c (.d (.rp cs o)) => K (.c (.d (.rp cs o))) [] [] n
    | _ => False
  | .extract x i => match X get x with
    | .tup vs => match vs[i]? with
      | some v => K v [] [] n
      | none => False
    | _ => False
  | .slice s x lo hi => match X get x with
    | .c (.d (.sl e s' es)) => s = s' ∧ bnd get es.length (fun h => bnd get 0 (fun l => l ≤ h ∧ h ≤ es.length ∧ K (.c (.d (.sl (e && hi.isNone) s ((es.take h).drop l)))) [] [] n) lo) hi
    | .c (.msl s' b off len) => s = s' ∧ bnd get len (fun h => bnd get 0 (fun l => l ≤ h ∧ h ≤ len ∧ K (.c (.msl s b (off + l) (h - l))) [] [] n) lo) hi
    | _ => False
  | .slice00 s x => match X get x with
    | .c (.d (.sl e s' es)) => K (.c (.d (.sl true s []))) [] [] n
    | _ => False
  | .sliceS x lo hi => match X get x with
    | .c (.d (.str t)) => bnd get t.size (fun h => bnd get 0 (fun l => l ≤ h ∧ h ≤ t.size ∧ K (.c (.d (.str (t.extract l h)))) [] [] n) lo) hi
    | _ => False
  | .append s bytes x y => match X get x with
    | .c (.msl s' b off len) => match m b with
      | .arr s'' es => s = s' ∧ s = s'' ∧ off = 0 ∧ len ≤ es.length ∧ m n = .non ∧ srcs get m s (fun ys rd => (len + ys.length) * bytes ≤ 70368744177664 ∧ (rd = [] ∨ rd = [b] ∨ b ∉ rd) ∧
          K (.c (.msl s n 0 (len + ys.length))) rd [(b, .dead), (n, .arr s (es.take len ++ ys))] (n + 1)) y
      | _ => False
    | .c (.d (.sl true s' [])) => m n = .non ∧ srcs get m s (fun ys rd => ys.length * bytes ≤ 70368744177664 ∧ K (.c (.msl s n 0 ys.length)) rd [(n, .arr s ys)] (n + 1)) y
    | .c (.d (.sl true s' (e :: es))) => s = s' ∧ m n = .non ∧ srcs get m s (fun ys rd => ys ≠ [] ∧ ((e :: es).length + ys.length) * bytes ≤ 70368744177664 ∧ K (.c (.msl s n 0 ((e :: es).length + ys.length))) rd [(n, .arr s ((e :: es).map (·.map .d) ++ ys))] (n + 1)) y
    | _ => False
  | .mkfn f caps => match capsC get caps with
    | some cs => match allD cs with
      | some ds => K (.c (.d (.fn (.func f) ds))) [] [] n
      | none => K (.c (.fn (.func f) cs)) [] [] n
    | none => False
  | .call f xs => match toDVs (xs.map (X get)) with
    | some ds => ∃ v, PCall P f ds v ∧ K v.av [] [] n
    | none => False
  | .calld x xs => match X get x, toDVs (xs.map (X get)) with
    | .c (.d (.fn (.func f) caps)), some ds => ∃ v, PCall P f (ds ++ caps.map .one) v ∧ K v.av [] [] n
    | _, _ => False
  | .callM f xs => mcallB P f (xs.map (X get)) m n K
  | .calldM x xs => match X get x with
    | .c (.fn (.func f) caps) => mcallB P f (xs.map (X get) ++ caps.map .c) m n K
    | .c (.d (.fn (.func f) caps)) => mcallB P f (xs.map (X get) ++ caps.map fun c => .c (.d c)) m n K
    | _ => False
  | .minI mx x y => match X get x, X get y with
    | .c (.d (.int k a)), .c (.d (.int k' b)) => k = k' ∧ K (.c (.d (.int k (mmI mx a b)))) [] [] n
    | _, _ => False
  | .isNilP ne x => match X get x with
    | .c (.d (.sc (.pointer none))) => K (.c (.d (.bool !ne))) [] [] n
    | .c (.d (.rp _ _)) => K (.c (.d (.bool ne))) [] [] n
    | _ => False
  | .isNil ne x => match X get x with
    | .c (.d (.sl _ _ (_ :: _))) => K (.c (.d (.bool ne))) [] [] n
    | .c (.d (.sl _ _ [])) => K (.c (.op isBoolV)) [] [] n
    | _ => False
  | .cmpS f x y => match X get x, X get y with
    | .c (.d (.str a)), .c (.d (.str b)) => K (.c (.d (.int .i64 (Lib.compareBytes a.data.toList b.data.toList)))) [] [] n
    | _, _ => False
  | .mkmap => m n = .non ∧ K (.c (.map n)) [] [(n, .map [])] (n + 1)
  | .mlook kk ok ag z x k => match X get x, X get k with
    | .c (.map b), .c (.d d) => match m b with
      | .map es => match mfind kk d es 0 with
        | some (some (_, v)) => K (if ok then .tup [v, .c (.d (.bool true))] else v) [b] [] n
        | some none => K (if ok then .tup [aval ag z, .c (.d (.bool false))] else aval ag z) [b] [] n
        | none => False
      | _ => False
    | _, _ => False
  | .mset kk x k v => match X get x, X get k with
    | .c (.map b), .c (.d d) => match m b with
      | .map es => match mfind kk d es 0 with
        | some (some (i, _)) => K (.c (.d .any)) [] [(b, .map (es.set i (d, X get v)))] n
        | some none => K (.c (.d .any)) [] [(b, .map (es ++ [(d, X get v)]))] n
        | none => False
      | _ => False
    | _, _ => False
  | .mdel kk x k => match X get x, X get k with
    | .c (.map b), .c (.d d) => match m b with
      | .map es => match mfind kk d es 0 with
        | some (some (i, _)) => K (.tup []) [] [(b, .map (es.eraseIdx i))] n
        | some none => K (.tup []) [] [(b, .map es)] n
        | none => False
      | _ => False
    | _, _ => False
  | .mlen x => match X get x with
    | .c (.map b) => match m b with
      | .map es => es.length ≤ lenMax ∧ K (.c (.d (.int .i64 es.length))) [b] [] n
      | _ => False
    | _ => False
  | .mksl z bytes x => match X get x with
    | .c (.d (.int .i64 j)) => 0 ≤ j ∧ j * bytes ≤ 70368744177664 ∧ K (.c (.d (.sl true z.length (List.replicate j.toNat z)))) [] [] n
    | _ => False
  | .mkslM z bytes x y => match X get x, X get y with
    | .c (.d (.int .i64 j)), .c (.d (.int .i64 l)) => 0 ≤ j ∧ j ≤ l ∧ l * bytes ≤ 70368744177664 ∧ m n = .non ∧ K (.c (.msl z.length n 0 j.toNat)) [] [(n, .arr z.length ((List.replicate j.toNat z).map (·.map .d)))] (n + 1)
    | _, _ => False
  | .eqAg ne ks x y => match X get x, X get y with
    | .ag cs, .ag cs' => match allD cs, allD cs' with
      | some a, some b => match eqL ks a b with
        | some t => K (.c (.d (.bool (t ^^ ne)))) [] [] n
        | none => False
      | _, _ => False
    | _, _ => False

/-! ### the check against the program's own operation -/

def constDs : List D → List Value → Bool
  | [], [] => true
  | d :: ds, v :: vs => constD d v && v.one1 && constDs ds vs
  | _, _ => false

theorem constDs_ok : ∀ {ds : List D} {vs : List Value}, constDs ds vs = true → vs.length = ds.length ∧ ∀ ph, RepL ph ds vs
  | [], [], _ => ⟨rfl, fun _ => by simp [RepL]⟩
  | d :: ds, v :: vs, h => by
    simp only [constDs, Bool.and_eq_true] at h
    obtain ⟨h1, h2⟩ := constDs_ok h.2
    refine ⟨by simp [h1], fun ph => ?_⟩
    simp only [RepL]
    exact ⟨⟨h.1.2, constD_ok h.1.1 ph⟩, h2 ph⟩
  | [], _ :: _, h => by simp [constDs] at h
  | _ :: _, [], h => by simp [constDs] at h

def isInt (P : Program) (T : TypeId) : Bool := match P.underlying T with | some (.int _) => true | _ => false
def slElem (P : Program) (T : TypeId) : Option TypeInfo := match P.underlying T with | some (.slice e) => P.info? e | _ => none
def arrElem (P : Program) (T : TypeId) : Option (Nat × TypeInfo) := match P.underlying T with | some (.array n e) => (P.info? e).map fun i => (n, i) | _ => none
def fieldOf (P : Program) (T : TypeId) (f : Nat) : Option (Nat × TypeId × TypeInfo) :=
  match P.underlying T with
  | some (.struct fs) => match fs[f]? with
    | some x => (P.info? x.type).map fun i => (x.offset, x.type, i)
    | none => none
  | _ => none
def chkOX : Option MX → Option Operand → Bool
  | none, none => true
  | some x, some o => chkX x o
  | _, _ => false
def zeroOf (i : TypeInfo) : List Value := match i.zero with | some z => z.cells.toList | none => []
def chkPs (P : Program) (pl : Nat → Option (Nat × Nat)) : List (Nat × Nat × MX) → List (Nat × Operand) → Bool
  | [], [] => true
  | (off, sz, x) :: ps, (i, o) :: os => (pl i == some (off, sz)) && chkX x o && chkPs P pl ps os
  | _, _ => false
def chkRow : List MX → Nat → List (Nat × Operand) → Bool
  | [], _, [] => true
  | x :: xs, k, (i, o) :: os => (i == k) && chkX x o && chkRow xs (k + 1) os
  | _, _, _ => false
/-- a map's keys are of this kind -/
def mapTy (P : Program) (T : TypeId) (kk : Nat) : Bool := match P.underlying T with
  | some (.map k _) => (match P.underlying k with | some (.int _) => kk == 0 | some .string => kk == 1 | some .bool => kk == 2 | _ => false)
  | _ => false
def mapVal (P : Program) (T : TypeId) : Option TypeId := match P.underlying T with | some (.map _ e) => some e | _ => none
def chkMk (P : Program) (T : TypeId) (z : List D) (bytes : Nat) : Bool := match slElem P T with
  | some i => i.size == z.length && i.bytes == bytes && decide (0 < bytes) && decide (0 < z.length) && i.zero.isSome && constDs z (zeroOf i)
  | none => false
/-- a struct of plain cells, one a field -/
def flatFs (P : Program) : List Nat → Nat → List Field → Bool
  | [], _, [] => true
  | k :: ks, i, f :: fs => f.offset == i && f.name != "_" && (match P.underlying f.type with | some (.int _) => k == 0 | some .string => k == 1 | some .bool => k == 2 | _ => false) && flatFs P ks (i + 1) fs
  | _, _, _ => false
def flatEq (P : Program) (T : TypeId) (ks : List Nat) : Bool := match P.underlying T with
  | some (.struct fs) => flatFs P ks 0 fs.toList
  | _ => false
theorem flatEq_ok {P : Program} {T : TypeId} {ks : List Nat} (h : flatEq P T ks = true) : ∃ fs, P.underlying T = some (.struct fs) ∧ flatFs P ks 0 fs.toList = true := by
  unfold flatEq at h
  split at h
  · rename_i fs hu; exact ⟨fs, hu, h⟩
  · cases h
def structPl (P : Program) (fs : Array Field) (i : Nat) : Option (Nat × Nat) := match fs[i]? with | some f => (P.info? f.type).map fun t => (f.offset, t.size) | none => none
def chkDel (P : Program) (c : Call) (kk : Nat) (x k : MX) : Bool := match c.callee with
  | .builtin .delete => (match c.args.toList with
    | [o, o'] => (match c.argTypes.toList with
      | T :: _ => chkX x o && chkX k o' && mapTy P T kk
      | _ => false)
    | _ => false)
  | _ => false
def chkMlen (P : Program) (c : Call) (x : MX) : Bool := match c.callee with
  | .builtin .len => (match c.args.toList with
    | [o] => (match c.argTypes.toList with
      | [T] => chkX x o && (mapVal P T).isSome
      | _ => false)
    | _ => false)
  | _ => false
theorem chkDel_ok {P : Program} {c : Call} {kk : Nat} {x k : MX} (h : chkDel P c kk x k = true) : ∃ o o' T tl, c.callee = .builtin .delete ∧ c.args.toList = [o, o'] ∧ c.argTypes.toList = T :: tl ∧ (chkX x o = true ∧ chkX k o' = true) ∧ mapTy P T kk = true := by
  unfold chkDel at h
  split at h
  · rename_i hb
    split at h
    · rename_i o o' ha
      split at h
      · rename_i T tl ht
        simp only [Bool.and_eq_true] at h
        exact ⟨o, o', T, tl, hb, ha, ht, h⟩
      · cases h
    · cases h
  · cases h
theorem chkMlen_ok {P : Program} {c : Call} {x : MX} (h : chkMlen P c x = true) : ∃ o T k e, c.callee = .builtin .len ∧ c.args.toList = [o] ∧ c.argTypes.toList = [T] ∧ chkX x o = true ∧ P.underlying T = some (.map k e) := by
  unfold chkMlen at h
  split at h
  · rename_i hb
    split at h
    · rename_i o ha
      split at h
      · rename_i T ht
        simp only [Bool.and_eq_true] at h
        obtain ⟨h1, h2⟩ := h
        unfold mapVal at h2
        split at h2
        · rename_i k e hu
          exact ⟨o, T, k, e, hb, ha, ht, h1, hu⟩
        · cases h2
      · cases h
    · cases h
  · cases h
def chkOp (P : Program) : MOp → Op → Bool
  | .mv x, .move o => chkX x o
  | .mv x, .assign o => chkX x o
  | .pick c a b, .pick c' a' b' => chkX c c' && chkX a a' && chkX b b'
  | .binI op x y, .binOp op' _ x' y' _ => decide (op = op') && chkX x x' && chkX y y'
  | .divI op x y, .binOp op' _ x' y' _ => decide (op = op') && (decide (op = .quo) || decide (op = .rem)) && chkX x x' && chkX y y'
  | .binS op x y, .binOp op' _ x' y' _ => decide (op = op') && chkX x x' && chkX y y'
  | .cat x y, .binOp op' _ x' y' _ => decide (op' = .add) && chkX x x' && chkX y y'
  | .binB op x y, .binOp op' T x' y' _ => decide (op = op') && (match P.underlying T with | some .bool => true | _ => false) && chkX x x' && chkX y y'
  | .not x, .unOp op _ o => decide (op = .not) && chkX x o
  | .neg x, .unOp op _ o => decide (op = .neg) && chkX x o
  | .convI k x, .convert s d o => (match P.underlying d with | some (.int k') => decide (k = k') | _ => false) && (match P.underlying s with | some _ => true | none => false) && chkX x o
  | .boxP x, .box T o => chkX x o
  | .boxM x, .box T o => chkX x o
  | .alloc z, .alloc T => (match P.info? T with | some i => i.zero.isSome && constDs z (zeroOf i) | none => false)
  | .build z ps, .build T os => (match P.info? T, P.underlying T with
      | some i, some (.struct fs) => i.zero.isSome && constDs z (zeroOf i) && fs.toList.all (fun f => (P.info? f.type).isSome) && chkPs P (structPl P fs) ps os.toList
      | some i, some (.array _ e) => (match P.info? e with | some j => i.zero.isSome && constDs z (zeroOf i) && chkPs P (fun k => some (k * j.size, j.size)) ps os.toList | none => false)
      | _, _ => false)
  | .buildSl s xs, .buildSlice T n os => (match slElem P T with | some i => i.size == s && i.zero.isSome && (zeroOf i).length == s && xs.length == n && decide (n * s ≤ 16777216) && decide (n ≤ 16777216) && chkRow xs 0 os.toList | none => false)
  | .buildSlM s xs, .buildSlice T n os => (match slElem P T with | some i => i.size == s && i.zero.isSome && (zeroOf i).length == s && xs.length == n && decide (n * s ≤ 16777216) && decide (n ≤ 16777216) && chkRow xs 0 os.toList | none => false)
  | .load ag sz x, .load T o => tyA P T == some (ag, sz) && chkX x o
  | .store sz a v, .store T a' v' => (match P.info? T with | some i => i.size == sz && decide (0 < sz) | none => false) && chkX a a' && chkX v v'
  | .faddr off x, .fieldAddr T o f => (match fieldOf P T f with | some (off', _, i) => off == off' && i.size != 0 | none => false) && chkX x o
  | .field ag off sz x, .field T o f => (match fieldOf P T f with | some (off', U, _) => off == off' && tyA P U == some (ag, sz) | none => false) && chkX x o
  | .iaddrS s x i, .indexAddr T x' i' => (match slElem P T with | some e => e.size == s | none => false) && chkX x x' && chkX i i'
  | .iaddrA len s x i, .indexAddr T x' i' => (match arrElem P T with | some (n, e) => n == len && e.size == s | none => false) && chkX x x' && chkX i i'
  | .idxA ag len s x i, .index T x' i' => (match P.underlying T with | some (.array n e) => n == len && tyA P e == some (ag, s) | _ => false) && chkX x x' && chkX i i'
  | .idxS x i, .index T x' i' => (match P.underlying T with | some .string => true | _ => false) && chkX x x' && chkX i i'
  | .len x, .call c => (match c.callee, c.args.toList, c.argTypes.toList with
      | .builtin .len, [o], [T] => chkX x o && (match P.underlying T with | some (.slice _) => true | _ => false)
      | _, _, _ => false)
  | .lenS x, .call c => (match c.callee, c.args.toList, c.argTypes.toList with
      | .builtin .len, [o], [T] => chkX x o && (match P.underlying T with | some .string => true | _ => false)
      | _, _, _ => false)
  | .nilck x, .nilCheck o => chkX x o
  | .extract x i, .extract o j => i == j && chkX x o
  | .slice s x lo hi, .slice T o l h mx => (match slElem P T with | some e => e.size == s | none => false) && mx.isNone && chkX x o && chkOX lo l && chkOX hi h
  | .slice00 s x, .slice T o l h mx => (match slElem P T with | some e => e.size == s | none => false) && chkX x o && l.isNone && chkOX (some (.k (.int .i64 0))) h && chkOX (some (.k (.int .i64 0))) mx
  | .sliceS x lo hi, .slice T o l h mx => (match P.underlying T with | some .string => true | _ => false) && mx.isNone && chkX x o && chkOX lo l && chkOX hi h
  | .append s bytes x y, .call c => (match c.callee, c.args.toList, c.argTypes.toList with
      | .builtin .append, [o, o'], [T, T'] => chkX x o && chkX y o' && !isInt P T' && (P.underlying T').isSome && (match slElem P T with | some e => e.size == s && e.bytes == bytes && decide (0 < bytes) && decide (bytes ≤ 1073741824) && decide (0 < s) && e.zero.isSome && (zeroOf e).length == s | none => false)
      | _, _, _ => false)
  | .mkfn f caps, .makeFunc fn first captured => (match fn with | .func g => f == g | _ => false) && first.isEmpty && chkXs caps captured.toList
  | .call f xs, .call c => (match c.callee with | .value (.func g) => f == g | _ => false) && chkXs xs c.args.toList
  | .calld x xs, .call c => (match c.callee with | .value o => chkX x o | _ => false) && chkXs xs c.args.toList
  | .callM f xs, .call c => (match c.callee with | .value (.func g) => f == g | _ => false) && chkXs xs c.args.toList
  | .calldM x xs, .call c => (match c.callee with | .value o => chkX x o | _ => false) && chkXs xs c.args.toList
  | .cmpS f x y, .call c => (match c.callee, c.args.toList with
      | .value (.func g), [o, o'] => f == g && (match P.funcs[f]? with | some fn => fn.name == cmpName && fn.body.isNone && (Extern.findNext fn).isNone | none => false) && chkX x o && chkX y o'
      | _, _ => false)
  | .mkmap, .makeMap _ r => r.isNone
  | .mlook kk ok ag z x k, .lookup T x' k' ok' => ok == ok' && chkX x x' && chkX k k' && mapTy P T kk && (match mapVal P T with
      | some e => (match P.info? e with | some i => i.zero.isSome && constDs z (zeroOf i) && tyA P e == some (ag, z.length) && (match i.zero with | some (.agg _) => ag | some (.tuple _) => false | some _ => !ag | none => false) | none => false)
      | none => false)
  | .mset kk x k v, .mapUpdate T x' k' v' => chkX x x' && chkX k k' && chkX v v' && mapTy P T kk
  | .mset kk x k v, .insert T x' k' v' => chkX x x' && chkX k k' && chkX v v' && mapTy P T kk
  | .mdel kk x k, .call c => chkDel P c kk x k
  | .mlen x, .call c => chkMlen P c x
  | .mksl z bytes x, .makeSlice T l c => chkX x l && chkX x c && chkMk P T z bytes
  | .mkslM z bytes x y, .makeSlice T l c => chkX x l && chkX y c && chkMk P T z bytes
  | .minI mx x y, .call c => (match c.callee, c.args.toList with
      | .builtin .min, [o, o'] => !mx && chkX x o && chkX y o'
      | .builtin .max, [o, o'] => mx && chkX x o && chkX y o'
      | _, _ => false)
  | .isNilP ne x, .binOp op T x' y' _ => decide (op = if ne then .neq else .eql) && chkX x x' && (match y' with | .const (.pointer none) => true | _ => false) && (match P.underlying T with | some (.pointer _) => true | _ => false)
  | .isNil ne x, .binOp op T x' y' _ => decide (op = if ne then .neq else .eql) && chkX x x' && (match y' with | .const (.slice none 0 0) => true | _ => false) && (match P.underlying T with | some (.slice _) => true | _ => false)
  | .eqAg ne ks x y, .binOp op T x' y' _ => decide (op = if ne then .neq else .eql) && chkX x x' && chkX y y' && !P.stoodInHeld T && !P.eqGuardType P.depth T && flatEq P T ks
  | _, _ => false

end Go.Abs
