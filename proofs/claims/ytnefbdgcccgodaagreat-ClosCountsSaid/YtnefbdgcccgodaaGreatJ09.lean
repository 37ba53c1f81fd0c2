/- Texts of ours, joined and written short by a program of ours. -/
import Derived.Test.YtnefbdgcccgodaaGreatCoeC
set_option linter.unusedVariables false
set_option linter.unusedSimpArgs false
namespace Go.Gr
open Go.Abs Go.Proofs
structure Ins where
 op : Int
 a : Int
 b : Int
 c : Int
structure Prc where
 caps : Int
 regs : Int
 code : List Ins
def encI (l : List Int) : List (List D) := l.map fun i => [.int .i64 i]
def encS (l : List ByteArray) : List (List D) := l.map fun s => [.str s]
def encN (l : List (ByteArray × Int)) : List (List D) := l.map fun x => [.str x.1, .int .i64 x.2]
inductive Coe where
 | mk (tags : List Int) (needs : List (ByteArray × Int)) (names : List ByteArray) (fields fn : List Coe)
mutual
def Coe.enc : Coe -> List D
 | .mk t n s f g => [.sl false 1 (encI t), .sl false 2 (encN n), .sl false 1 (encS s), .sl false 5 (Coe.encs f), .sl false 5 (Coe.encs g)]
def Coe.encs : List Coe -> List (List D)
 | [] => []
 | c :: cs => Coe.enc c :: Coe.encs cs
end
theorem Coe.encs_map (l : List Coe) : Coe.encs l = l.map Coe.enc := by
 induction l with
 | nil => simp [Coe.encs]
 | cons c l ih => simp [Coe.encs, ih]
structure Cod where
 ints : List Int
 strs : List ByteArray
 shapes : List (List ByteArray)
 cos : List Coe
 procs : List Prc
 main : Int
 merge : Bool
@[simp] theorem zvT (l : List Int) : (encI l).length = l.length := by simp [encI]
@[simp] theorem zi8 (l : List ByteArray) : (encS l).length = l.length := by simp [encS]
@[simp] theorem zw3 (l : List Int) (k : Nat) : (encI l)[k]? = (l[k]?).map fun i => [.int .i64 i] := by simp [encI]
@[simp] theorem zw4 (l : List ByteArray) (k : Nat) : (encS l)[k]? = (l[k]?).map fun i => [.str i] := by simp [encS]
end Go.Gr
namespace Go.Gr
open Go.Abs Go.Proofs
inductive Typ where
 | mk (kind : Int) (name : ByteArray) (names : List ByteArray) (kids : List Typ)
mutual
def Typ.enc : Typ -> List D
 | .mk k n s l => [.int .i64 k, .str n, .sl false 1 (encS s), .sl false 4 (Typ.encs l)]
def Typ.encs : List Typ -> List (List D)
 | [] => []
 | t :: l => Typ.enc t :: Typ.encs l
end
theorem Typ.encs_map (l : List Typ) : Typ.encs l = l.map Typ.enc := by
 induction l with
 | nil => simp [Typ.encs]
 | cons c l ih => simp [Typ.encs, ih]
def Typ.kind : Typ -> Int | .mk k _ _ _ => k
def Typ.name : Typ -> ByteArray | .mk _ n _ _ => n
def Typ.names : Typ -> List ByteArray | .mk _ _ s _ => s
def Typ.kids : Typ -> List Typ | .mk _ _ _ l => l
theorem Typ.enc_eq (t : Typ) : t.enc = [.int .i64 t.kind, .str t.name, .sl false 1 (encS t.names), .sl false 4 (t.kids.map Typ.enc)] := by
 cases t; simp [Typ.enc, Typ.encs_map, Typ.kind, Typ.name, Typ.names, Typ.kids]
@[simp] theorem Typ.enc_length (t : Typ) : t.enc.length = 4 := by rw [t.enc_eq]; try rfl
@[simp] theorem Typ.enc_0 (t : Typ) : t.enc[0]? = some (.int .i64 t.kind) := by rw [t.enc_eq]; try rfl
@[simp] theorem Typ.enc_1 (t : Typ) : t.enc[1]? = some (.str t.name) := by rw [t.enc_eq]; try rfl
@[simp] theorem Typ.enc_2 (t : Typ) : t.enc[2]? = some (.sl false 1 (encS t.names)) := by rw [t.enc_eq]; try rfl
@[simp] theorem Typ.enc_3 (t : Typ) : t.enc[3]? = some (.sl false 4 (t.kids.map Typ.enc)) := by rw [t.enc_eq]; try rfl
@[simp] theorem Typ.enc_g0 (t : Typ) (h : 0 < t.enc.length) : t.enc[0] = .int .i64 t.kind := by have := t.enc_0; rw [List.getElem?_eq_getElem h] at this; exact Option.some.inj this
@[simp] theorem Typ.enc_g2 (t : Typ) (h : 2 < t.enc.length) : t.enc[2] = .sl false 1 (encS t.names) := by have := t.enc_2; rw [List.getElem?_eq_getElem h] at this; exact Option.some.inj this
@[simp] theorem Typ.enc_g3 (t : Typ) (h : 3 < t.enc.length) : t.enc[3] = .sl false 4 (t.kids.map Typ.enc) := by have := t.enc_3; rw [List.getElem?_eq_getElem h] at this; exact Option.some.inj this
def noT : Typ := .mk 0 (bs []) [] []
structure Tok where
 kind : Int
 text : ByteArray
 line : Int
 col : Int
def Tok.enc (t : Tok) : List D := [.int .i64 t.kind, .str t.text, .int .i64 t.line, .int .i64 t.col]
def zgL : Tok := ⟨0, bs [], 0, 0⟩
@[simp] theorem Tok.enc_length (t : Tok) : t.enc.length = 4 := rfl
@[simp] theorem Tok.enc_0 (t : Tok) : t.enc[0]? = some (.int .i64 t.kind) := rfl
@[simp] theorem Tok.enc_1 (t : Tok) : t.enc[1]? = some (.str t.text) := rfl
@[simp] theorem Tok.enc_2 (t : Tok) : t.enc[2]? = some (.int .i64 t.line) := rfl
@[simp] theorem Tok.enc_3 (t : Tok) : t.enc[3]? = some (.int .i64 t.col) := rfl
@[simp] theorem Tok.enc_g0 (t : Tok) (h : 0 < t.enc.length) : t.enc[0] = .int .i64 t.kind := rfl
@[simp] theorem Tok.enc_g1 (t : Tok) (h : 1 < t.enc.length) : t.enc[1] = .str t.text := rfl
@[simp] theorem Tok.enc_g2 (t : Tok) (h : 2 < t.enc.length) : t.enc[2] = .int .i64 t.line := rfl
@[simp] theorem Tok.enc_g3 (t : Tok) (h : 3 < t.enc.length) : t.enc[3] = .int .i64 t.col := rfl
@[simp] theorem Tok.cut_enc (t : Tok) : cut t.enc 0 4 = t.enc := rfl
@[simp] theorem Tok.cut_map (t : Tok) : cut (t.enc.map AC.d) 0 4 = t.enc.map .d := rfl
inductive Nod where
 | mk (kind : Int) (text : ByteArray) (n line col : Int) (types : List Typ) (names : List ByteArray) (kids : List Nod)
mutual
def Nod.enc : Nod -> List D
 | .mk k t n a b ts ns ks => [.int .i64 k, .str t, .int .i64 n, .int .i64 a, .int .i64 b, .sl false 4 (ts.map Typ.enc), .sl false 1 (encS ns), .sl false 8 (Nod.encs ks)]
def Nod.encs : List Nod -> List (List D)
 | [] => []
 | n :: l => Nod.enc n :: Nod.encs l
end
theorem Nod.encs_map (l : List Nod) : Nod.encs l = l.map Nod.enc := by
 induction l with
 | nil => rfl
 | cons n l ih => simp [Nod.encs, ih]
def noN : Nod := .mk 0 (bs []) 0 0 0 [] [] []
def Nod.kind : Nod -> Int | .mk k _ _ _ _ _ _ _ => k
def Nod.text : Nod -> ByteArray | .mk _ t _ _ _ _ _ _ => t
def Nod.n : Nod -> Int | .mk _ _ n _ _ _ _ _ => n
def Nod.line : Nod -> Int | .mk _ _ _ a _ _ _ _ => a
def Nod.col : Nod -> Int | .mk _ _ _ _ b _ _ _ => b
def Nod.types : Nod -> List Typ | .mk _ _ _ _ _ t _ _ => t
def Nod.names : Nod -> List ByteArray | .mk _ _ _ _ _ _ s _ => s
def Nod.kids : Nod -> List Nod | .mk _ _ _ _ _ _ _ l => l
theorem Nod.enc_eq (t : Nod) : t.enc = [.int .i64 t.kind, .str t.text, .int .i64 t.n, .int .i64 t.line, .int .i64 t.col, .sl false 4 (t.types.map Typ.enc), .sl false 1 (encS t.names), .sl false 8 (t.kids.map Nod.enc)] := by
 cases t; simp [Nod.enc, Nod.encs_map, Nod.kind, Nod.text, Nod.n, Nod.line, Nod.col, Nod.types, Nod.names, Nod.kids]
@[simp] theorem Nod.enc_length (t : Nod) : t.enc.length = 8 := by rw [t.enc_eq]; try rfl
end Go.Gr
namespace Go.Gr
open Go.Abs Go.Proofs
def bA (l : List UInt8) : ByteArray := ⟨l.toArray⟩
def letV (c : Int) : Bool := decide (97 <= c /\ c <= 122 \/ 65 <= c /\ c <= 90 \/ c = 95)
def digV (c : Int) : Bool := decide (48 <= c /\ c <= 57)
def letU (b : UInt8) : Bool := letV b.toNat
def digU (b : UInt8) : Bool := digV b.toNat
def blkL : Bool -> List UInt8 -> Nat
 | _, [] => 0
 | true, c :: l => blkL (decide (c ≠ 10)) l + 1
 | false, c :: l => if c = 35 then blkL true l + 1 else if c = 32 \/ c = 9 \/ c = 10 \/ c = 13 then blkL false l + 1 else 0
def runL (num : Bool) : List UInt8 -> Nat
 | [] => 0
 | b :: l => if (digU b || (!num && letU b)) = true then runL num l + 1 else 0
def quoL : List UInt8 -> Option (List UInt8 × Nat)
 | [] => none
 | c :: l => if c = 34 then some ([], 1) else if c < 32 then none else if c ≠ 92 then (quoL l).map fun x => (c :: x.1, x.2 + 1) else
  match l with
  | [] => none
  | d :: l => if d = 92 \/ d = 34 then (quoL l).map fun x => (d :: x.1, x.2 + 2) else if d = 110 then (quoL l).map fun x => (10 :: x.1, x.2 + 2) else if d = 116 then (quoL l).map fun x => (9 :: x.1, x.2 + 2) else none
def twoL : List (List UInt8) := [[45, 62], [61, 62], [60, 58], [60, 60], [60, 61], [62, 62], [61, 61], [43, 43]]
def oneL : List UInt8 := [40, 41, 123, 125, 91, 93, 44, 58, 59, 61, 43, 45, 42, 47, 37, 38, 94, 60, 124, 46]
def zd1 (l : List UInt8) : Nat := if (twoL.any fun t => decide (l.take 2 = t)) = true then 2 else match l with
 | [] => 0
 | c :: _ => if c ∈ oneL then 1 else 0
def numL : List UInt8 -> Nat -> Option Nat
 | [], n => some n
 | c :: l, n => if digU c = true then numL l (10 * n + (c.toNat - 48)) else none
def zd9 (l : List UInt8) : Int × Bool :=
 if l.length = 0 \/ 19 < l.length \/ (l.head? = some 48 /\ 1 < l.length) then (0, false) else match numL l 0 with
 | none => (0, false)
 | some n => if 9223372036854775807 < n then (0, false) else (n, true)
def zce (s : ByteArray) : Int × Bool := zd9 s.data.toList
end Go.Gr
namespace Go.Gr
open Go.Abs Go.Proofs
def zh5 : List ByteArray := [bs [97, 110, 100], bs [97, 110, 121], bs [97, 115], bs [98, 111, 111, 108], bs [101, 108, 115, 101], bs [101, 120, 112, 111, 114, 116], bs [102, 97, 108, 115, 101], bs [102, 110], bs [102, 117, 110, 99, 116, 105, 111, 110], bs [105, 102], bs [105, 109, 112, 111, 114, 116], bs [105, 110], bs [105, 110, 116], bs [105, 115], bs [108, 101, 116], bs [110, 111, 116], bs [110, 117, 108, 108], bs [111, 114], bs [112, 114, 105, 110, 116], bs [114, 101, 97, 100], bs [114, 101, 99, 111, 114, 100], bs [115, 116, 114], bs [116, 104, 101, 110], bs [116, 114, 117, 101], bs [119, 105, 116, 104]]
def zkV (s : ByteArray) : Bool := zh5.any fun w => decide (w = s)
def zbm (s : ByteArray) : Bool := match s.data.toList with
 | [] => false
 | c :: l => decide (s.size <= 32) && (!zkV s && (!digU c && (c :: l).all fun b => letU b || digU b))
structure TokR where
 kind : Int
 text : List UInt8
 len : Nat
 e : Int
def badR (e : Int) : TokR := ⟨0, [], 0, e⟩
def tokL : List UInt8 -> TokR
 | [] => badR 5
 | c :: r =>
  if letU c = true then
   (if 32 < runL false (c :: r) then badR 2 else ⟨if zkV (bA ((c :: r).take (runL false (c :: r)))) = true then 2 else 1, (c :: r).take (runL false (c :: r)), runL false (c :: r), 0⟩)
  else if digU c = true then
   (if (zd9 ((c :: r).take (runL true (c :: r)))).2 = true then ⟨3, (c :: r).take (runL true (c :: r)), runL true (c :: r), 0⟩ else badR 3)
  else if c = 34 then (match quoL r with
   | none => badR 4
   | some (t, n) => if 256 < t.length then badR 2 else ⟨4, t, n + 1, 0⟩)
  else if zd1 (c :: r) = 0 then badR 5 else ⟨5, (c :: r).take (zd1 (c :: r)), zd1 (c :: r), 0⟩
def zbd : List UInt8 -> Int -> Int -> Int × Int
 | [], a, b => (a, b)
 | c :: l, a, b => if c = 10 then zbd l (a + 1) 1 else zbd l a (b + 1)
structure Dia where
 module : Int
 line : Int
 col : Int
 e : Int
def Dia.enc (d : Dia) : List D := [.int .i64 d.module, .int .i64 d.line, .int .i64 d.col, .int .i64 d.e]
def noD : Dia := ⟨0, 0, 0, 0⟩
def lexL : Nat -> List UInt8 -> Int -> Int -> List Tok -> List Tok × Dia
 | 0, _, _, _, ts => (ts, noD)
 | n + 1, l, a, b, ts =>
  let q := zbd (l.take (blkL false l)) a b
  let l' := l.drop (blkL false l)
  if l' = [] then (ts ++ [⟨0, bs [], q.1, q.2⟩], noD)
  else
   let t := tokL l'
   let e := if t.e = 0 /\ ts.length = 8192 then 19 else t.e
   if e ≠ 0 then ([], ⟨0, q.1, q.2, e⟩) else lexL n (l'.drop t.len) q.1 (q.2 + t.len) (ts ++ [⟨t.kind, bA t.text, q.1, q.2⟩])
def lexP (s : ByteArray) : List Tok × Dia := if 65536 < s.size then ([], ⟨0, 1, 1, 2⟩) else lexL (s.size + 1) s.data.toList 1 1 []
end Go.Gr
namespace Go.Gr
open Go.Abs Go.Proofs
structure PS where
  at' : Nat
  deep : Nat
  e : Int
  line : Int
  col : Int
section
variable (L : List Tok)
def curT (p : PS) : Tok := L.getD p.at' zgL
def zcx (e : Int) (p : PS) : PS := if p.e = 0 then { p with e := e, line := (curT L p).line, col := (curT L p).col } else p
def ziB (s : ByteArray) (p : PS) : Bool := decide (p.e = 0) && ((decide ((curT L p).kind = 2) || decide ((curT L p).kind = 5)) && decide ((curT L p).text = s))
def zab (s : ByteArray) (p : PS) : Bool × PS := if ziB L s p = true then (true, { p with at' := p.at' + 1 }) else (false, p)
def zax (s : ByteArray) (p : PS) : PS := if (zab L s p).1 = true then (zab L s p).2 else zcx L 7 p
def zaz (p : PS) : ByteArray × PS := if p.e = 0 /\ (curT L p).kind = 1 then ((curT L p).text, { p with at' := p.at' + 1 }) else (bs [], zcx L 7 p)
def zdH (p : PS) : PS := if 100 <= p.deep then zcx L 6 p else p
def zau (p : PS) : Bool × PS := if (zdH L p).e ≠ 0 then (false, zdH L p) else (true, { zdH L p with deep := p.deep + 1 })
end
section
variable (L : List Tok)
def zcU : List ByteArray := [bs [97, 110, 121], bs [110, 117, 108, 108], bs [98, 111, 111, 108], bs [105, 110, 116], bs [115, 116, 114]]
def zco : Nat -> List ByteArray -> PS -> Option (Nat × PS)
  | _, [], _ => none
  | i, s :: l, p => if (zab L s p).1 = true then some (i, (zab L s p).2) else zco (i + 1) l p
def zcV (ki : PS -> Typ × PS) : Nat -> List ByteArray -> List Typ -> PS -> (List ByteArray × List Typ) × PS
  | 0, ns, ks, p => ((ns, ks), p)
  | n + 1, ns, ks, p =>
    let a := zaz L p
    let k := ki (zax L (bs [58]) a.2)
    let m := zab L (bs [44]) k.2
    if m.1 = true then zcV ki n (ns ++ [a.1]) (ks ++ [k.1]) m.2 else ((ns ++ [a.1], ks ++ [k.1]), m.2)
def zk7 (ki : PS -> Typ × PS) (p : PS) : Typ × PS :=
    if (zab L (bs [40]) p).1 = true then ((ki (zab L (bs [40]) p).2).1, zax L (bs [41]) (ki (zab L (bs [40]) p).2).2)
    else if (zab L (bs [123]) p).1 = true then
      (if (zab L (bs [125]) (zab L (bs [123]) p).2).1 = true then (.mk 5 (bs []) [] [], (zab L (bs [125]) (zab L (bs [123]) p).2).2)
      else (.mk 5 (bs []) (zcV L ki (L.length + 1) [] [] (zab L (bs [123]) p).2).1.1 (zcV L ki (L.length + 1) [] [] (zab L (bs [123]) p).2).1.2, zax L (bs [125]) (zcV L ki (L.length + 1) [] [] (zab L (bs [123]) p).2).2))
    else (.mk 8 (zaz L p).1 [] [], (zaz L p).2)
def zbC (ki : PS -> Typ × PS) (p : PS) : Typ × PS := match zco L 0 zcU p with
  | some (i, q) => (.mk i (bs []) [] [], q)
  | none => zk7 L ki p
def altN (ki : PS -> Typ × PS) : Nat -> List Typ -> PS -> List Typ × PS
  | 0, l, p => (l, p)
  | n + 1, l, p => if (zab L (bs [124]) p).1 = true then
      let t := zbC L ki (zab L (bs [124]) p).2
      altN ki n (l ++ [t.1]) t.2
    else (l, p)
def zq9 : List Typ -> Typ
  | [t] => t
  | l => .mk 7 (bs []) [] l
theorem zt5 {l : List Typ} (h : l.length ≠ 1) : zq9 l = .mk 7 (bs []) [] l := by
  match l, h with
  | [], _ => rfl
  | _ :: _ :: _, _ => rfl
def altP (ki : PS -> Typ × PS) (p : PS) : Typ × PS :=
  let a := zbC L ki p
  let r := altN L ki (L.length + 1) [a.1] a.2
  (zq9 r.1, r.2)
def zk8 (ki : PS -> Typ × PS) (p : PS) : Typ × PS :=
  let a := altP L ki p
  let m := zab L (bs [45, 62]) a.2
  if m.1 = true then (.mk 6 (bs []) [] [a.1, (ki m.2).1], (ki m.2).2) else (a.1, m.2)
def zcd {α : Type} (x : α × PS) : α × PS := (x.1, { x.2 with deep := x.2.deep - 1 })
def zcy : Nat -> PS -> Typ × PS
  | 0 => fun p => (noT, p)
  | d + 1 => fun p => if (zau L p).1 = true then zcd (zk8 L (zcy d) (zau L p).2) else (noT, (zau L p).2)
def zbe (ki : PS -> Typ × PS) (p : PS) : List Typ × PS := if (zab L (bs [58]) p).1 = true then ([(ki (zab L (bs [58]) p).2).1], (ki (zab L (bs [58]) p).2).2) else ([], p)
end
section
variable (L : List Tok)
def mkN (p : PS) (k : Int) (t : ByteArray) (n : Int) (ts : List Typ) (ns : List ByteArray) (ks : List Nod) : Nod := .mk k t n (curT L p).line (curT L p).col ts ns ks
abbrev wLet := bs [108, 101, 116]
abbrev wIf := bs [105, 102]
abbrev ziC := bs [116, 104, 101, 110]
abbrev ziD := bs [101, 108, 115, 101]
abbrev wFn := bs [102, 110]
def zbD (ki : PS -> Typ × PS) (p : PS) : (ByteArray × List Typ) × PS :=
  let s := zaz L (zax L (bs [40]) p)
  let a := zbe L ki s.2
  let b := zbe L ki (zax L (bs [41]) a.2)
  ((s.1, (if a.1.length = 0 then [noT] else a.1) ++ b.1), b.2)
def zfG (ki : PS -> Typ × PS) (ex rk : PS -> Nod × PS) (p : PS) : Nod × PS :=
  if (zab L wLet p).1 = true then
    let s := zaz L (zab L wLet p).2
    let t := zbe L ki s.2
    let v := ex (zax L (bs [61]) t.2)
    let b := ex (zax L (bs [59]) v.2)
    (mkN L p 5 s.1 0 t.1 [] [v.1, b.1], b.2)
  else if (zab L wIf p).1 = true then
    let c := ex (zab L wIf p).2
    let a := ex (zax L ziC c.2)
    let b := ex (zax L ziD a.2)
    (mkN L p 11 (bs []) 0 [] [] [c.1, a.1, b.1], b.2)
  else if (zab L wFn p).1 = true then
    let h := zbD L ki (zab L wFn p).2
    let b := ex (zax L (bs [61, 62]) h.2)
    (mkN L p 6 h.1.1 0 h.1.2 [] [b.1], b.2)
  else rk p
def zcW : List ByteArray -> PS -> Option (ByteArray × PS)
  | [], _ => none
  | s :: l, p => if (zab L s p).1 = true then some (s, (zab L s p).2) else zcW l p
def opsP (rk : PS -> Nod × PS) (signs : List ByteArray) : Nat -> Nod -> PS -> Nod × PS
  | 0, a, p => (a, p)
  | n + 1, a, p => match zcW L signs p with
    | none => (a, p)
    | some (s, q) => opsP rk signs n (mkN L p 14 s 0 [] [] [a, (rk q).1]) (rk q).2
def zbK : Nat -> List ByteArray
  | 0 => [bs [111, 114]]
  | 1 => [bs [97, 110, 100]]
  | 3 => [bs [43, 43]]
  | 4 => [bs [43], bs [45], bs [94]]
  | 5 => [bs [42], bs [47], bs [37], bs [38], bs [60, 60], bs [62, 62]]
  | _ => []
def zdd : List ByteArray := [bs [110, 117, 108, 108], bs [98, 111, 111, 108], bs [105, 110, 116], bs [115, 116, 114], bs [114, 101, 99, 111, 114, 100], bs [102, 117, 110, 99, 116, 105, 111, 110]]
def cmpP (ki : PS -> Typ × PS) (rk : PS -> Nod × PS) (p : PS) : Nod × PS :=
  let a := rk p
  match zcW L [bs [60], bs [60, 61], bs [61, 61]] a.2 with
  | some (s, q) => (mkN L a.2 14 s 0 [] [] [a.1, (rk q).1], (rk q).2)
  | none =>
    if (zab L (bs [97, 115]) a.2).1 = true then
      let t := ki (zab L (bs [97, 115]) a.2).2
      (mkN L a.2 13 (bs []) 0 [t.1] [] [a.1], t.2)
    else if (zab L (bs [105, 115]) a.2).1 = true then
      match zco L 0 zdd (zab L (bs [105, 115]) a.2).2 with
      | some (i, q) => (mkN L a.2 12 (bs []) i [] [] [a.1], q)
      | none => (mkN L a.2 12 (bs []) 0 [] [] [a.1], zcx L 7 (zab L (bs [105, 115]) a.2).2)
    else a
def ziE (un : PS -> Nod × PS) (p : PS) : Nod × PS := opsP L un (zbK 5) (L.length + 1) (un p).1 (un p).2
def ziF (un : PS -> Nod × PS) (p : PS) : Nod × PS := opsP L (ziE L un) (zbK 4) (L.length + 1) (ziE L un p).1 (ziE L un p).2
def zmX (un : PS -> Nod × PS) (p : PS) : Nod × PS := opsP L (ziF L un) (zbK 3) (L.length + 1) (ziF L un p).1 (ziF L un p).2
def ziG (ki : PS -> Typ × PS) (un : PS -> Nod × PS) (p : PS) : Nod × PS := cmpP L ki (zmX L un) p
def ziH (ki : PS -> Typ × PS) (un : PS -> Nod × PS) (p : PS) : Nod × PS := opsP L (ziG L ki un) (zbK 1) (L.length + 1) (ziG L ki un p).1 (ziG L ki un p).2
def zmY (ki : PS -> Typ × PS) (un : PS -> Nod × PS) (p : PS) : Nod × PS := opsP L (ziH L ki un) (zbK 0) (L.length + 1) (ziH L ki un p).1 (ziH L ki un p).2
def zb7 (ki : PS -> Typ × PS) : Nat -> List Typ -> PS -> List Typ × PS
  | 0, l, p => (l, p)
  | n + 1, l, p =>
    let t := ki p
    let m := zab L (bs [44]) t.2
    if m.1 = true then zb7 ki n (l ++ [t.1]) m.2 else (l ++ [t.1], zax L (bs [93]) m.2)
def zcX (ex : PS -> Nod × PS) : Nat -> List ByteArray -> List Nod -> PS -> (List ByteArray × List Nod) × PS
  | 0, ns, ks, p => ((ns, ks), p)
  | n + 1, ns, ks, p =>
    let s := zaz L p
    let k := ex (zax L (bs [58]) s.2)
    let m := zab L (bs [44]) k.2
    if m.1 = true then zcX ex n (ns ++ [s.1]) (ks ++ [k.1]) m.2 else ((ns ++ [s.1], ks ++ [k.1]), m.2)
abbrev ziI := bs [119, 105, 116, 104]
def zbZ (ex : PS -> Nod × PS) (q p : PS) : Nod × PS :=
  if (zab L (bs [125]) p).1 = true then (mkN L q 8 (bs []) 0 [] [] [], (zab L (bs [125]) p).2)
  else if p.e ≠ 0 \/ (curT L p).kind ≠ 1 \/ (L.getD (p.at' + 1) zgL).kind ≠ 5 \/ (L.getD (p.at' + 1) zgL).text ≠ bs [58] then
    let a := ex p
    let s := zaz L (zax L ziI a.2)
    let b := ex (zax L (bs [58]) s.2)
    (mkN L q 10 s.1 0 [] [] [a.1, b.1], zax L (bs [125]) b.2)
  else
    let r := zcX L ex (L.length + 1) [] [] p
    (mkN L q 8 (bs []) 0 [] r.1.1 r.1.2, zax L (bs [125]) r.2)
end
section
variable (L : List Tok)
abbrev ziJ := bs [116, 114, 117, 101]
abbrev zgq := bs [102, 97, 108, 115, 101]
abbrev ziK := bs [110, 117, 108, 108]
abbrev zd8 := bs [114, 101, 97, 100]
abbrev zc9 := bs [112, 114, 105, 110, 116]
def numV (s : ByteArray) : Int := (zce s).1
def zeH (ki : PS -> Typ × PS) (ex : PS -> Nod × PS) (p : PS) : Nod × PS :=
  if p.e = 0 /\ (curT L p).kind = 3 then (mkN L p 0 (bs []) (numV (curT L p).text) [] [] [], { p with at' := p.at' + 1 })
  else if p.e = 0 /\ (curT L p).kind = 4 then (mkN L p 1 (curT L p).text 0 [] [] [], { p with at' := p.at' + 1 })
  else if (zab L ziJ p).1 = true then (mkN L p 2 (bs []) 1 [] [] [], (zab L ziJ p).2)
  else if (zab L zgq p).1 = true then (mkN L p 2 (bs []) 0 [] [] [], (zab L zgq p).2)
  else if (zab L ziK p).1 = true then (mkN L p 3 (bs []) 0 [] [] [], (zab L ziK p).2)
  else if (zab L zd8 p).1 = true then (mkN L p 18 (bs []) 0 [] [] [], zax L (bs [41]) (zax L (bs [40]) (zab L zd8 p).2))
  else if (zab L zc9 p).1 = true then
    let k := ex (zax L (bs [40]) (zab L zc9 p).2)
    (mkN L p 17 (bs []) 0 [] [] [k.1], zax L (bs [41]) k.2)
  else if (zab L (bs [40]) p).1 = true then ((ex (zab L (bs [40]) p).2).1, zax L (bs [41]) (ex (zab L (bs [40]) p).2).2)
  else if (zab L (bs [123]) p).1 = true then zbZ L ex p (zab L (bs [123]) p).2
  else
    let s := zaz L p
    if (zab L (bs [91]) s.2).1 = true then
      let t := zb7 L ki (L.length + 1) [] (zab L (bs [91]) s.2).2
      (mkN L p 19 s.1 0 t.1 [] [], t.2)
    else (mkN L p 4 s.1 0 [] [] [], s.2)
def zcz (ex : PS -> Nod × PS) : Nat -> Nod -> PS -> Nod × PS
  | 0, a, p => (a, p)
  | n + 1, a, p =>
    if (zab L (bs [40]) p).1 = true then
      let b := ex (zab L (bs [40]) p).2
      zcz ex n (mkN L p 7 (bs []) 0 [] [] [a, b.1]) (zax L (bs [41]) b.2)
    else if (zab L (bs [46]) p).1 = true then
      let s := zaz L (zab L (bs [46]) p).2
      zcz ex n (mkN L p 9 s.1 0 [] [] [a]) s.2
    else (a, p)
def zgZ (ki : PS -> Typ × PS) (ex : PS -> Nod × PS) (p : PS) : Nod × PS :=
  let a := zeH L ki ex p
  zcz L ex (L.length + 1) a.1 a.2
abbrev wNot := bs [110, 111, 116]
def zel (ki : PS -> Typ × PS) (ex un : PS -> Nod × PS) (p : PS) : Nod × PS :=
  if (zab L (bs [45]) p).1 = true then
    let k := un (zab L (bs [45]) p).2
    (mkN L p 16 (bs []) 0 [] [] [k.1], k.2)
  else if (zab L wNot p).1 = true then
    let k := un (zab L wNot p).2
    (mkN L p 15 (bs []) 0 [] [] [k.1], k.2)
  else zgZ L ki ex p
def euP (ki : PS -> Typ × PS) : Nat -> (PS -> Nod × PS) × (PS -> Nod × PS)
  | 0 => (fun p => (noN, p), fun p => (noN, p))
  | d + 1 =>
    (fun p => if (zau L p).1 = true then zcd (zfG L ki (euP ki d).1 (zmY L ki (euP ki d).2) (zau L p).2) else (noN, (zau L p).2),
     fun p => if (zau L p).1 = true then zcd (zel L ki (euP ki d).1 (euP ki d).2 (zau L p).2) else (noN, (zau L p).2))
def kiP : PS -> Typ × PS := zcy L 102
def exP : PS -> Nod × PS := (euP L (kiP L) 102).1
def zbE : Nat -> List ByteArray -> PS -> List ByteArray × PS
  | 0, l, p => (l, p)
  | n + 1, l, p =>
    let s := zaz L p
    let m := zab L (bs [44]) s.2
    if m.1 = true then zbE n (l ++ [s.1]) m.2 else (l ++ [s.1], m.2)
def zdI : Nat -> List (ByteArray × Typ) -> PS -> List (ByteArray × Typ) × PS
  | 0, l, p => (l, p)
  | n + 1, l, p =>
    let s := zaz L p
    let t := if (zab L (bs [60, 58]) s.2).1 = true then kiP L (zab L (bs [60, 58]) s.2).2 else (noT, s.2)
    let m := zab L (bs [44]) t.2
    if m.1 = true then zdI n (l ++ [(s.1, t.1)]) m.2 else (l ++ [(s.1, t.1)], zax L (bs [93]) m.2)
def zdJ (p : PS) : List (ByteArray × Typ) × PS := if (zab L (bs [91]) p).1 = true then zdI L (L.length + 1) [] (zab L (bs [91]) p).2 else ([], p)
structure Imp where
  from_ : ByteArray
  names : List ByteArray
  line : Int
  col : Int
structure Dec where
  name : ByteArray
  exp : Bool
  vars : List (ByteArray × Typ)
  param : ByteArray
  types : List Typ
  body : Nod
  line : Int
  col : Int
structure Mdl where
  imps : List Imp
  decs : List Dec
abbrev zbN := bs [105, 109, 112, 111, 114, 116]
abbrev zdq := bs [101, 120, 112, 111, 114, 116]
def zcY : Nat -> List Imp -> PS -> List Imp × PS
  | 0, l, p => (l, p)
  | n + 1, l, p => if p.e = 0 /\ (zab L zbN p).1 = true then
      let s := zaz L (zab L zbN p).2
      let ns := zbE L (L.length + 1) [] (zax L (bs [58]) s.2)
      zcY n (l ++ [⟨s.1, ns.1, (curT L p).line, (curT L p).col⟩]) (zax L (bs [59]) ns.2)
    else (l, p)
def decP (p : PS) : Dec × PS :=
  let x := zab L zdq p
  let s := zaz L (zax L wFn x.2)
  let v := zdJ L s.2
  let h := zbD L (kiP L) v.2
  let b := exP L (zax L (bs [61]) h.2)
  (⟨s.1, x.1, v.1, h.1.1, if h.1.2.length = 1 then h.1.2 ++ [noT] else h.1.2, b.1, (curT L x.2).line, (curT L x.2).col⟩, zax L (bs [59]) b.2)
def zb8 : Nat -> List Dec -> PS -> List Dec × PS
  | 0, l, p => (l, p)
  | n + 1, l, p => if p.e = 0 /\ (curT L p).kind ≠ 0 then zb8 n (l ++ [(decP L p).1]) (decP L p).2 else (l, p)
def zdr (p : PS) : Mdl × PS :=
  let i := zcY L (L.length + 1) [] p
  let d := zb8 L (L.length + 1) [] i.2
  (⟨i.1, d.1⟩, d.2)
end
structure OkL (L : List Tok) : Prop where
  pos : 0 < L.length
  mid : ∀ i, i < L.length -> (L.getD i zgL).kind ≠ 0 -> i + 1 < L.length
structure Tm (L : List Tok) (p q : PS) : Prop where
  deep : q.deep = p.deep
  le : p.at' <= q.at'
  lt : q.at' < L.length
  bad : p.e ≠ 0 -> q.e ≠ 0
section
variable {L : List Tok}
theorem Tm.refl {p : PS} (h : p.at' < L.length) : Tm L p p := ⟨rfl, Nat.le_refl _, h, id⟩
theorem Tm.trans {p q r : PS} (h : Tm L p q) (k : Tm L q r) : Tm L p r := ⟨k.deep.trans h.deep, Nat.le_trans h.le k.le, k.lt, fun x => k.bad (h.bad x)⟩
theorem zeO {e : Int} {p : PS} (h : p.at' < L.length) : Tm L p (zcx L e p) := by
  unfold zcx
  split
  · rename_i q
    exact ⟨rfl, Nat.le_refl _, h, fun x => absurd q x⟩
  · exact Tm.refl h
theorem zox {e : Int} {p : PS} (h : e ≠ 0) : (zcx L e p).e ≠ 0 := by
  unfold zcx
  split
  · exact h
  · rename_i q; exact q
theorem zah (hL : OkL L) {s : ByteArray} {p : PS} (h : p.at' < L.length) : Tm L p (zab L s p).2 := by
  unfold zab
  split
  · rename_i q
    unfold ziB curT at q
    simp only [Bool.and_eq_true, Bool.or_eq_true, decide_eq_true_eq] at q
    refine ⟨rfl, by simp, hL.mid _ h (by omega), fun x => absurd q.1 x⟩
  · exact Tm.refl h
theorem zaL {s : ByteArray} {p : PS} (h : (zab L s p).1 = true) : (zab L s p).2.at' = p.at' + 1 /\ p.e = 0 := by
  unfold zab at h ⊢
  split
  · rename_i q
    unfold ziB at q
    simp only [Bool.and_eq_true, decide_eq_true_eq] at q
    exact ⟨rfl, q.1⟩
  · rename_i q
    rw [if_neg q] at h; cases h
theorem zaE {s : ByteArray} {p : PS} (h : ¬ (zab L s p).1 = true) : (zab L s p).2 = p := by
  unfold zab at h ⊢
  split
  · rename_i q
    rw [if_pos q] at h; exact absurd rfl h
  · rfl
theorem zap (hL : OkL L) {s : ByteArray} {p : PS} (h : p.at' < L.length) : Tm L p (zax L s p) := by
  unfold zax
  split
  · exact zah hL h
  · exact zeO h
theorem zu8 {s : ByteArray} {p : PS} : (zax L s p).e ≠ 0 \/ (zax L s p).at' = p.at' + 1 := by
  unfold zax
  split
  · rename_i q; exact .inr (zaL q).1
  · exact .inl (zox (by decide))
theorem zaK (hL : OkL L) {p : PS} (h : p.at' < L.length) : Tm L p (zaz L p).2 := by
  unfold zaz
  split
  · rename_i q
    exact ⟨rfl, by simp, hL.mid _ h (by unfold curT at q; omega), fun x => absurd q.1 x⟩
  · exact zeO h
theorem ziL {p : PS} (h : p.at' < L.length) : Tm L p (zdH L p) := by
  unfold zdH
  split
  · exact zeO h
  · exact Tm.refl h
end
end Go.Gr
namespace Go.Gr
open Go.Abs Go.Proofs
section
variable {L : List Tok}
def Tame {α : Type} (L : List Tok) (f : PS -> α × PS) : Prop := ∀ p, p.at' < L.length -> Tm L p (f p).2
theorem zis (hL : OkL L) : ∀ (l : List ByteArray) (i : Nat) {p q : PS} {k : Nat}, p.at' < L.length -> zco L i l p = some (k, q) -> Tm L p q /\ p.at' < q.at' /\ p.e = 0 /\ k < i + l.length
 | [], _, _, _, _, _, h => by rw [zco] at h; cases h
 | s :: l, i, p, q, k, hp, h => by
  rw [zco] at h
  split at h
  ·rename_i c
   simp only [Option.some.injEq, Prod.mk.injEq] at h
   obtain ⟨rfl, rfl⟩ := h
   have := zaL c
   exact ⟨zah hL hp, by omega, this.2, by simp⟩
  ·have := zis hL l (i + 1) hp h
   simp only [List.length_cons]
   exact ⟨this.1, this.2.1, this.2.2.1, by omega⟩
theorem zgc (hL : OkL L) : ∀ (l : List ByteArray) {p q : PS} {k : ByteArray}, p.at' < L.length -> zcW L l p = some (k, q) -> Tm L p q /\ p.at' < q.at' /\ p.e = 0
 | [], _, _, _, _, h => by rw [zcW] at h; cases h
 | s :: l, p, q, k, hp, h => by
  rw [zcW] at h
  split at h
  ·rename_i c
   simp only [Option.some.injEq, Prod.mk.injEq] at h
   obtain ⟨rfl, rfl⟩ := h
   have := zaL c
   exact ⟨zah hL hp, by omega, this.2⟩
  ·exact zgc hL l hp h
theorem zmm (hL : OkL L) {ki : PS -> Typ × PS} (hk : Tame L ki) : ∀ (n : Nat) (ns : List ByteArray) (ks : List Typ), Tame L (zcV L ki n ns ks)
 | 0, ns, ks, p, hp => Tm.refl hp
 | n + 1, ns, ks, p, hp => by
  have h1 := zaK hL hp
  have h2 := h1.trans (zap hL h1.lt (s := bs [58]))
  have h3 := h2.trans (hk _ h2.lt)
  have h4 := h3.trans (zah hL h3.lt (s := bs [44]))
  rw [zcV]
  split
  ·exact h4.trans (zmm hL hk n _ _ _ h4.lt)
  ·exact h4
theorem ztw (hL : OkL L) {ki : PS -> Typ × PS} (hk : Tame L ki) : Tame L (zk7 L ki) := fun p hp => by
 unfold zk7
 by_cases c1 : (zab L (bs [40]) p).1 = true
 ·rw [if_pos c1]
  have h1 := zah hL hp (s := bs [40])
  have h2 := h1.trans (hk _ h1.lt)
  exact h2.trans (zap hL h2.lt)
 rw [if_neg c1]
 by_cases c2 : (zab L (bs [123]) p).1 = true
 ·rw [if_pos c2]
  have h1 := zah hL hp (s := bs [123])
  by_cases c3 : (zab L (bs [125]) (zab L (bs [123]) p).2).1 = true
  ·rw [if_pos c3]
   exact h1.trans (zah hL h1.lt)
  ·rw [if_neg c3]
   have h2 := h1.trans (zmm hL hk (L.length + 1) [] [] _ h1.lt)
   exact h2.trans (zap hL h2.lt)
 rw [if_neg c2]
 exact zaK hL hp
theorem zgd (hL : OkL L) {ki : PS -> Typ × PS} (hk : Tame L ki) : Tame L (zbC L ki) := fun p hp => by
 unfold zbC
 cases e : zco L 0 zcU p with
 | some x => exact (zis hL _ _ hp e).1
 | none => exact ztw hL hk p hp
theorem zpF (hL : OkL L) {ki : PS -> Typ × PS} (hk : Tame L ki) : ∀ (n : Nat) (l : List Typ), Tame L (altN L ki n l)
 | 0, l, p, hp => Tm.refl hp
 | n + 1, l, p, hp => by
  rw [altN]
  split
  ·have h1 := zah hL hp (s := bs [124])
   have h2 := h1.trans (zgd hL hk _ h1.lt)
   exact h2.trans (zpF hL hk n _ _ h2.lt)
  ·exact Tm.refl hp
theorem zr0 (hL : OkL L) {ki : PS -> Typ × PS} (hk : Tame L ki) : Tame L (altP L ki) := fun p hp => by
 have h1 := zgd hL hk p hp
 unfold altP
 exact h1.trans (zpF hL hk (L.length + 1) _ _ h1.lt)
theorem zgK {p : PS} (h : ¬ (zau L p).1 = true) : (zau L p).2 = zdH L p := by
 unfold zau at h ⊢
 split
 ·rfl
 ·rename_i q; rw [if_neg q] at h; exact absurd rfl h
theorem zb3 {p : PS} (h : (zau L p).1 = true) : (zau L p).2 = { p with deep := p.deep + 1 } /\ p.deep < 100 /\ p.e = 0 := by
 unfold zau at h ⊢
 split
 ·rename_i q; rw [if_pos q] at h; cases h
 ·rename_i q
  have hd : p.deep < 100 := by
   rcases Nat.lt_or_ge p.deep 100 with r | r
   ·exact r
   ·exfalso
    apply q
    unfold zdH
    rw [if_pos r]
    exact zox (by decide)
  have e : zdH L p = p := by unfold zdH; rw [if_neg (by omega)]
  rw [e] at q ⊢
  exact ⟨rfl, hd, by simpa using q⟩
theorem zjH {α : Type} {p : PS} {x : α × PS} (h : (zau L p).1 = true) (hp : p.at' < L.length) (k : Tm L (zau L p).2 x.2) : Tm L p (zcd x).2 := by
 obtain ⟨e, _, h0⟩ := zb3 h
 rw [e] at k
 have hd := k.deep
 simp only at hd
 exact ⟨by simp only [zcd]; omega, k.le, k.lt, fun x => absurd h0 x⟩
theorem ztx (hL : OkL L) {ki : PS -> Typ × PS} (hk : Tame L ki) : Tame L (zk8 L ki) := fun p hp => by
 have h1 := zr0 hL hk p hp
 have h2 := h1.trans (zah hL h1.lt (s := bs [45, 62]))
 unfold zk8
 by_cases c2 : (zab L (bs [45, 62]) (altP L ki p).2).1 = true
 ·show Tm L p (if (zab L (bs [45, 62]) (altP L ki p).2).1 = true then _ else _ : Typ × PS).2
  rw [if_pos c2]
  exact h2.trans (hk _ h2.lt)
 ·show Tm L p (if (zab L (bs [45, 62]) (altP L ki p).2).1 = true then _ else _ : Typ × PS).2
  rw [if_neg c2]
  exact h2
theorem zls (hL : OkL L) (d : Nat) : Tame L (zcy L d) := by
 induction d with
 | zero => exact fun p hp => Tm.refl hp
 | succ d ih =>
  intro p hp
  rw [zcy]
  show Tm L p (if (zau L p).1 = true then _ else _ : Typ × PS).2
  by_cases c : (zau L p).1 = true
  ·rw [if_pos c]
   have hp' : (zau L p).2.at' < L.length := by rw [(zb3 c).1]; exact hp
   exact zjH c hp (ztx hL ih _ hp')
  ·rw [if_neg c, zgK c]; exact ziL hp
theorem zdo (hL : OkL L) {ki : PS -> Typ × PS} (hk : Tame L ki) : Tame L (zbe L ki) := fun p hp => by
 unfold zbe
 split
 ·have h1 := zah hL hp (s := bs [58])
  exact h1.trans (hk _ h1.lt)
 ·exact Tm.refl hp
theorem zeM (hL : OkL L) {ki : PS -> Typ × PS} (hk : Tame L ki) : Tame L (zbD L ki) := fun p hp => by
 unfold zbD
 have h1 := zap hL hp (s := bs [40])
 have h2 := h1.trans (zaK hL h1.lt)
 have h3 := h2.trans (zdo hL hk _ h2.lt)
 have h4 := h3.trans (zap hL h3.lt (s := bs [41]))
 exact h4.trans (zdo hL hk _ h4.lt)
theorem zlt (hL : OkL L) {ki : PS -> Typ × PS} {ex rk : PS -> Nod × PS} (hk : Tame L ki) (he : Tame L ex) (hr : Tame L rk) : Tame L (zfG L ki ex rk) := fun p hp => by
 unfold zfG
 split
 ·have h1 := zah hL hp (s := wLet)
  have h2 := h1.trans (zaK hL h1.lt)
  have h3 := h2.trans (zdo hL hk _ h2.lt)
  have h4 := h3.trans (zap hL h3.lt (s := bs [61]))
  have h5 := h4.trans (he _ h4.lt)
  have h6 := h5.trans (zap hL h5.lt (s := bs [59]))
  exact h6.trans (he _ h6.lt)
 ·split
  ·have h1 := zah hL hp (s := wIf)
   have h2 := h1.trans (he _ h1.lt)
   have h3 := h2.trans (zap hL h2.lt (s := ziC))
   have h4 := h3.trans (he _ h3.lt)
   have h5 := h4.trans (zap hL h4.lt (s := ziD))
   exact h5.trans (he _ h5.lt)
  ·split
   ·have h1 := zah hL hp (s := wFn)
    have h2 := h1.trans (zeM hL hk _ h1.lt)
    have h3 := h2.trans (zap hL h2.lt (s := bs [61, 62]))
    exact h3.trans (he _ h3.lt)
   ·exact hr p hp
theorem zge (hL : OkL L) {rk : PS -> Nod × PS} (hr : Tame L rk) (signs : List ByteArray) : ∀ (n : Nat) (a : Nod), Tame L (opsP L rk signs n a)
 | 0, a, p, hp => Tm.refl hp
 | n + 1, a, p, hp => by
  rw [opsP]
  split
  ·exact Tm.refl hp
  ·rename_i s q h
   have h1 := (zgc hL _ hp h).1
   have h2 := h1.trans (hr _ h1.lt)
   exact h2.trans (zge hL hr signs n _ _ h2.lt)
theorem zvA (hL : OkL L) {ki : PS -> Typ × PS} {rk : PS -> Nod × PS} (hk : Tame L ki) (hr : Tame L rk) : Tame L (cmpP L ki rk) := fun p hp => by
 have h0 := hr p hp
 unfold cmpP
 simp only
 split
 ·rename_i s q h
  have h1 := h0.trans (zgc hL _ h0.lt h).1
  exact h1.trans (hr _ h1.lt)
 ·split
  ·have h1 := h0.trans (zah hL h0.lt (s := bs [97, 115]))
   exact h1.trans (hk _ h1.lt)
  ·split
   ·have h1 := h0.trans (zah hL h0.lt (s := bs [105, 115]))
    split
    ·rename_i i q h
     exact h1.trans (zis hL _ _ h1.lt h).1
    ·exact h1.trans (zeO h1.lt)
   ·exact h0
theorem zit (hL : OkL L) {ki : PS -> Typ × PS} {un : PS -> Nod × PS} (hk : Tame L ki) (hu : Tame L un) : Tame L (ziE L un) /\ Tame L (ziF L un) /\ Tame L (zmX L un) /\ Tame L (ziG L ki un) /\ Tame L (ziH L ki un) /\ Tame L (zmY L ki un) := by
 have h5 : Tame L (ziE L un) := fun p hp => (hu p hp).trans (zge hL hu _ _ _ _ (hu p hp).lt)
 have h4 : Tame L (ziF L un) := fun p hp => (h5 p hp).trans (zge hL h5 _ _ _ _ (h5 p hp).lt)
 have h3 : Tame L (zmX L un) := fun p hp => (h4 p hp).trans (zge hL h4 _ _ _ _ (h4 p hp).lt)
 have h2 : Tame L (ziG L ki un) := zvA hL hk h3
 have h1 : Tame L (ziH L ki un) := fun p hp => (h2 p hp).trans (zge hL h2 _ _ _ _ (h2 p hp).lt)
 have h0 : Tame L (zmY L ki un) := fun p hp => (h1 p hp).trans (zge hL h1 _ _ _ _ (h1 p hp).lt)
 exact ⟨h5, h4, h3, h2, h1, h0⟩
theorem zjI (hL : OkL L) {ki : PS -> Typ × PS} (hk : Tame L ki) : ∀ (n : Nat) (l : List Typ), Tame L (zb7 L ki n l)
 | 0, l, p, hp => Tm.refl hp
 | n + 1, l, p, hp => by
  have h1 := hk p hp
  have h2 := h1.trans (zah hL h1.lt (s := bs [44]))
  rw [zb7]
  split
  ·exact h2.trans (zjI hL hk n _ _ h2.lt)
  ·exact h2.trans (zap hL h2.lt)
theorem zlu (hL : OkL L) {ex : PS -> Nod × PS} (he : Tame L ex) : ∀ (n : Nat) (ns : List ByteArray) (ks : List Nod), Tame L (zcX L ex n ns ks)
 | 0, ns, ks, p, hp => Tm.refl hp
 | n + 1, ns, ks, p, hp => by
  have h1 := zaK hL hp
  have h2 := h1.trans (zap hL h1.lt (s := bs [58]))
  have h3 := h2.trans (he _ h2.lt)
  have h4 := h3.trans (zah hL h3.lt (s := bs [44]))
  rw [zcX]
  split
  ·exact h4.trans (zlu hL he n _ _ _ h4.lt)
  ·exact h4
theorem zr1 (hL : OkL L) {ex : PS -> Nod × PS} (he : Tame L ex) (q : PS) : Tame L (zbZ L ex q) := fun p hp => by
 unfold zbZ
 split
 ·exact zah hL hp
 ·split
  ·have h1 := he p hp
   have h2 := h1.trans (zap hL h1.lt (s := ziI))
   have h3 := h2.trans (zaK hL h2.lt)
   have h4 := h3.trans (zap hL h3.lt (s := bs [58]))
   have h5 := h4.trans (he _ h4.lt)
   exact h5.trans (zap hL h5.lt)
  ·have h1 := zlu hL he (L.length + 1) [] [] p hp
   exact h1.trans (zap hL h1.lt)
theorem zr2 (hL : OkL L) {p : PS} (hp : p.at' < L.length) (h : p.e = 0 /\ (curT L p).kind ≠ 0) : Tm L p { p with at' := p.at' + 1 } :=
 ⟨rfl, by simp, hL.mid _ hp h.2, fun x => absurd h.1 x⟩
theorem zlv (hL : OkL L) {ki : PS -> Typ × PS} {ex : PS -> Nod × PS} (hk : Tame L ki) (he : Tame L ex) : Tame L (zeH L ki ex) := fun p hp => by
 unfold zeH
 by_cases c1 : p.e = 0 /\ (curT L p).kind = 3
 ·rw [if_pos c1]; exact zr2 hL hp ⟨c1.1, by omega⟩
 rw [if_neg c1]
 by_cases c2 : p.e = 0 /\ (curT L p).kind = 4
 ·rw [if_pos c2]; exact zr2 hL hp ⟨c2.1, by omega⟩
 rw [if_neg c2]
 by_cases c3 : (zab L ziJ p).1 = true
 ·rw [if_pos c3]; exact zah hL hp
 rw [if_neg c3]
 by_cases c4 : (zab L zgq p).1 = true
 ·rw [if_pos c4]; exact zah hL hp
 rw [if_neg c4]
 by_cases c5 : (zab L ziK p).1 = true
 ·rw [if_pos c5]; exact zah hL hp
 rw [if_neg c5]
 by_cases c6 : (zab L zd8 p).1 = true
 ·rw [if_pos c6]
  have h1 := zah hL hp (s := zd8)
  have h2 := h1.trans (zap hL h1.lt (s := bs [40]))
  exact h2.trans (zap hL h2.lt)
 rw [if_neg c6]
 by_cases c7 : (zab L zc9 p).1 = true
 ·rw [if_pos c7]
  have h1 := zah hL hp (s := zc9)
  have h2 := h1.trans (zap hL h1.lt (s := bs [40]))
  have h3 := h2.trans (he _ h2.lt)
  exact h3.trans (zap hL h3.lt)
 rw [if_neg c7]
 by_cases c8 : (zab L (bs [40]) p).1 = true
 ·rw [if_pos c8]
  have h1 := zah hL hp (s := bs [40])
  have h2 := h1.trans (he _ h1.lt)
  exact h2.trans (zap hL h2.lt)
 rw [if_neg c8]
 by_cases c9 : (zab L (bs [123]) p).1 = true
 ·rw [if_pos c9]
  have h1 := zah hL hp (s := bs [123])
  exact h1.trans (zr1 hL he p _ h1.lt)
 rw [if_neg c9]
 have h1 := zaK hL hp
 by_cases c10 : (zab L (bs [91]) (zaz L p).2).1 = true
 ·have h2 := h1.trans (zah hL h1.lt (s := bs [91]))
  have h3 := h2.trans (zjI hL hk (L.length + 1) [] _ h2.lt)
  show Tm L p (if (zab L (bs [91]) (zaz L p).2).1 = true then _ else _ : Nod × PS).2
  rw [if_pos c10]
  exact h3
 ·show Tm L p (if (zab L (bs [91]) (zaz L p).2).1 = true then _ else _ : Nod × PS).2
  rw [if_neg c10]
  exact h1
theorem zjJ (hL : OkL L) {ex : PS -> Nod × PS} (he : Tame L ex) : ∀ (n : Nat) (a : Nod), Tame L (zcz L ex n a)
 | 0, a, p, hp => Tm.refl hp
 | n + 1, a, p, hp => by
  rw [zcz]
  split
  ·have h1 := zah hL hp (s := bs [40])
   have h2 := h1.trans (he _ h1.lt)
   have h3 := h2.trans (zap hL h2.lt (s := bs [41]))
   exact h3.trans (zjJ hL he n _ _ h3.lt)
  ·split
   ·have h1 := zah hL hp (s := bs [46])
    have h2 := h1.trans (zaK hL h1.lt)
    exact h2.trans (zjJ hL he n _ _ h2.lt)
   ·exact Tm.refl hp
theorem zpG (hL : OkL L) {ki : PS -> Typ × PS} {ex : PS -> Nod × PS} (hk : Tame L ki) (he : Tame L ex) : Tame L (zgZ L ki ex) := fun p hp => by
 have h1 := zlv hL hk he p hp
 unfold zgZ
 exact h1.trans (zjJ hL he _ _ _ h1.lt)
theorem zty (hL : OkL L) {ki : PS -> Typ × PS} {ex un : PS -> Nod × PS} (hk : Tame L ki) (he : Tame L ex) (hu : Tame L un) : Tame L (zel L ki ex un) := fun p hp => by
 unfold zel
 split
 ·have h1 := zah hL hp (s := bs [45])
  exact h1.trans (hu _ h1.lt)
 ·split
  ·have h1 := zah hL hp (s := wNot)
   exact h1.trans (hu _ h1.lt)
  ·exact zpG hL hk he p hp
theorem zmW (hL : OkL L) {ki : PS -> Typ × PS} (hk : Tame L ki) (d : Nat) : Tame L (euP L ki d).1 /\ Tame L (euP L ki d).2 := by
 induction d with
 | zero => exact ⟨fun p hp => Tm.refl hp, fun p hp => Tm.refl hp⟩
 | succ d ih =>
  rw [euP]
  refine ⟨fun p hp => ?_, fun p hp => ?_⟩
  ·show Tm L p (if (zau L p).1 = true then _ else _ : Nod × PS).2
   by_cases c : (zau L p).1 = true
   ·rw [if_pos c]
    have hp' : (zau L p).2.at' < L.length := by rw [(zb3 c).1]; exact hp
    exact zjH c hp (zlt hL hk ih.1 (zit hL hk ih.2).2.2.2.2.2 _ hp')
   ·rw [if_neg c, zgK c]; exact ziL hp
  ·show Tm L p (if (zau L p).1 = true then _ else _ : Nod × PS).2
   by_cases c : (zau L p).1 = true
   ·rw [if_pos c]
    have hp' : (zau L p).2.at' < L.length := by rw [(zb3 c).1]; exact hp
    exact zjH c hp (zty hL hk ih.1 ih.2 _ hp')
   ·rw [if_neg c, zgK c]; exact ziL hp
end
end Go.Gr
namespace Go.Gr
open Go.Abs Go.Proofs
theorem zaR {ts : List (Nat × Nat)} {b : Blk} (h : ts.length = [b].length) : ∃ t, ts = [t] := by
 match ts, h with
 | [t], _ => exact ⟨t, rfl⟩
abbrev psB (L : List Tok) (p : PS) : Blk := .box [.d (.sl false 4 (L.map Tok.enc)), .d (.int .i64 p.at'), .d (.int .i64 p.deep), .d (.int .i64 p.e), .d (.int .i64 p.line), .d (.int .i64 p.col)]
section
variable {L : List Tok}
theorem zcr {p : PS} (h : p.at' < L.length) : L[p.at']? = some (curT L p) := by
 unfold curT
 rw [List.getD_eq_getElem?_getD, List.getElem?_eq_getElem h]; try rfl
theorem ze8 (e : Int) (p : PS) (h : p.at' < L.length) : MCall Pg F.gp_fail [.c (.ptr 0 0), .c (.d (.int .i64 e))] [psB L p] (.tup []) [psB L (zcx L e p)] := by
 refine zqq ⟨by simp, by simp, by simp, by simp, by simp, by simp, by simp⟩ fun ts hts ok hb c hN hp => ?_
 obtain ⟨t, rfl⟩ := zaR hts
 have hg := zcr h
 unfold zkq zcx
 simp
 refine gd.mk (fun h0 => ?_) (fun h0 => ?_)
 ·have h0 : p.e = 0 := by simpa using h0
  rw [if_pos h0]
  simp [hg]
  refine ⟨by decide, ?_⟩
  exact EndM.mk [0] [1] (by simp)
 ·have h0 : ¬ p.e = 0 := by simpa using h0
  rw [if_neg h0]
  exact EndM.mk [0] [1] (by simp)
theorem ztt (s : ByteArray) (p : PS) (h : p.at' < L.length) : MCall Pg F.gp_sees [.c (.ptr 0 0), .c (.d (.str s))] [psB L p] (.c (.d (.bool (ziB L s p)))) [psB L p] := by
 refine zqr ⟨by simp, by simp, by simp, by simp, by simp, by simp, by simp⟩ fun ts hts ok hb c hN hp => ?_
 obtain ⟨t, rfl⟩ := zaR hts
 have hg := zcr h
 unfold zkr ziB
 generalize curT L p = T at *
 by_cases h0 : p.e = 0 <;> by_cases h2 : T.kind = 2 <;> by_cases h5 : T.kind = 5 <;> simp [hg, h0, h2, h5]
 all_goals (refine ⟨by decide, ?_⟩)
 all_goals exact EndM.mk [0] [1] (by simp [h0, h2, h5])
theorem zaD (s : ByteArray) (p : PS) (h : p.at' < L.length) (hl : L.length <= 10000) : MCall Pg F.gp_take [.c (.ptr 0 0), .c (.d (.str s))] [psB L p] (.c (.d (.bool (zab L s p).1))) [psB L (zab L s p).2] := by
 refine zqs ⟨by simp, by simp, by simp, by simp, by simp, by simp, by simp⟩ fun ts hts ok hb c hN hp => ?_
 obtain ⟨t, rfl⟩ := zaR hts
 have hs := ztt s p h
 unfold zks zab
 generalize ziB L s p = b at *
 simp
 refine zaa.mk [0] hs (by simp) ?_
 cases b with
 | true =>
  simp
  exact EndM.mk [0] [1] (by simp; exact wrap_i64 (by omega) (by omega))
 | false =>
  simp
  exact EndM.mk [0] [1] (by simp)
theorem zaI (hL : OkL L) (s : ByteArray) (p : PS) (h : p.at' < L.length) (hl : L.length <= 10000) : MCall Pg F.gp_want [.c (.ptr 0 0), .c (.d (.str s))] [psB L p] (.tup []) [psB L (zax L s p)] := by
 refine zqt ⟨by simp, by simp, by simp, by simp, by simp, by simp, by simp⟩ fun ts hts ok hb c hN hp => ?_
 obtain ⟨t, rfl⟩ := zaR hts
 have hs := zaD s p h hl
 unfold zkt zax
 by_cases q : (zab L s p).1 = true
 ·rw [if_pos q]
  rw [q] at hs
  simp
  refine zaa.mk [0] hs (by simp) ?_
  simp
  exact EndM.mk [0] [1] (by simp)
 ·rw [if_neg q]
  rw [zaE q] at hs
  rw [Bool.not_eq_true] at q
  rw [q] at hs
  have hf := ze8 (L := L) 7 p h
  simp
  refine zaa.mk [0] hs (by simp) ?_
  simp
  refine zaa.mk [0] hf (by simp) ?_
  simp
  exact EndM.mk [0] [1] (by simp)
theorem zbw (p : PS) (h : p.at' < L.length) (hl : L.length <= 10000) : MCall Pg F.gp_name [.c (.ptr 0 0)] [psB L p] (.c (.d (.str (zaz L p).1))) [psB L (zaz L p).2] := by
 refine zqu ⟨by simp, by simp, by simp, by simp, by simp, by simp, by simp⟩ fun ts hts ok hb c hN hp => ?_
 obtain ⟨t, rfl⟩ := zaR hts
 have hg := zcr h
 have hf := ze8 (L := L) 7 p h
 unfold zku zaz
 generalize curT L p = T at *
 by_cases h0 : p.e = 0 <;> by_cases h1 : T.kind = 1 <;> simp [hg, h0, h1]
 ·refine ⟨by decide, ?_⟩
  exact EndM.mk [0] [1] (by simp; exact wrap_i64 (by omega) (by omega))
 all_goals
  refine ⟨by decide, ?_⟩
  refine zaa.mk [0] hf (by simp) ?_
  simp
  exact EndM.mk [0] [1] (by simp [h0, h1])
theorem zhV (p : PS) (h : p.at' < L.length) (hd : p.deep <= 1000) : MCall Pg F.gp_enter [.c (.ptr 0 0)] [psB L p] (.c (.d (.bool (zau L p).1))) [psB L (zau L p).2] := by
 refine zoY ⟨by simp, by simp, by simp, by simp, by simp, by simp, by simp⟩ fun ts hts ok hb c hN hp => ?_
 obtain ⟨t, rfl⟩ := zaR hts
 have hf := ze8 (L := L) 6 p h
 have hfd : (zcx L 6 p).deep = p.deep := (zeO h).deep
 have hff : (zcx L 6 p).e ≠ 0 := zox (by decide)
 unfold zjc zau zdH
 by_cases h1 : 100 <= p.deep
 ·have h1' : (100 : Int) <= p.deep := by omega
  rw [if_pos h1, if_pos hff]
  simp [h1']
  refine zaa.mk [0] hf (by simp) ?_
  simp [hff]
  exact EndM.mk [0] [1] (by simp)
 ·have h1' : ¬ (100 : Int) <= p.deep := by omega
  rw [if_neg h1]
  by_cases h0 : p.e = 0
  ·rw [if_neg (by simp [h0])]
   simp [h1', h0]
   exact EndM.mk [0] [1] (by simp; exact wrap_i64 (by omega) (by omega))
  ·rw [if_pos h0]
   simp [h1', h0]
   exact EndM.mk [0] [1] (by simp)
end
end Go.Gr
namespace Go.Gr
open Go.Abs Go.Proofs
@[simp] theorem zvZ {α : Type} (f : Nat -> Nat) (g : α -> List D) : AC.rens f ∘ ((fun x => List.map AC.d x) ∘ g) = (fun x => List.map AC.d x) ∘ g := by funext x; simp
@[simp] theorem encS_app (a b : List ByteArray) : encS (a ++ b) = encS a ++ encS b := by simp [encS]
@[simp] theorem znf (s : ByteArray) : encS [s] = [[.str s]] := rfl
@[simp] theorem zwC : encS [] = [] := rfl
theorem zf2 : ∀ l : List ByteArray, D.erdE (encS l) = encS l
 | [] => rfl
 | s :: l => by
  have ih := zf2 l
  simp only [encS, List.map_cons, D.erdE, D.erdL, D.erd] at ih ⊢
  rw [ih]
mutual
theorem Typ.erdL : ∀ t : Typ, D.erdL t.enc = t.enc
 | .mk k n s l => by
  simp only [Typ.enc, D.erdL, D.erd, zf2, Typ.erdE l]
theorem Typ.erdE : ∀ l : List Typ, D.erdE (Typ.encs l) = Typ.encs l
 | [] => rfl
 | t :: l => by simp only [Typ.encs, D.erdE, Typ.erdL t, Typ.erdE l]
end
@[simp] theorem zng (l : List Typ) : D.erdE (l.map Typ.enc) = l.map Typ.enc := by rw [<- Typ.encs_map]; exact Typ.erdE l
theorem znh : ∀ l : List D, (l.map AC.d).map AC.erd = (D.erdL l).map .d
 | [] => rfl
 | d :: l => by simp only [List.map_cons, znh l, D.erdL]; rfl
attribute [simp] AV.erd AC.erd D.erd D.erdE D.erdL Typ.erdL zf2 Typ.erdE
abbrev box4 : Blk := .box [.d (.int .i64 0), .d (.str (bs [])), .d (.sl true 1 []), .d (.sl true 4 [])]
def KiOk (L : List Tok) (d : Nat) (ki : PS -> Typ × PS) : Prop := ∀ p : PS, p.at' < L.length -> p.deep = d -> MCall Pg F.gp_Kind [.c (.ptr 0 0)] [psB L p] (.ag ((ki p).1.enc.map .d)) [psB L (ki p).2]
section
variable {L : List Tok}
set_option maxRecDepth 20000 in
set_option maxHeartbeats 2000000 in
theorem zni (hL : OkL L) (hl : L.length <= 10000) {d : Nat} {ki : PS -> Typ × PS} (hk : Tame L ki) (Hk : KiOk L d ki) (p : PS) (h : p.at' < L.length) (hd : p.deep = d) :
  MCall Pg F.gp_prim [.c (.ptr 0 0)] [psB L p] (.ag ((zbC L ki p).1.enc.map .d)) [psB L (zbC L ki p).2] := by
 refine zqw ⟨by simp, by simp, by simp, by simp, by simp, by simp, by simp⟩ fun ts hts ok hb c hN hp => ?_
 obtain ⟨t, rfl⟩ := zaR hts
 have hR : zbC L ki p = zbC L ki p := rfl
 generalize hR' : zbC L ki p = R at *
 unfold zkw
 simp
 refine W.loop Pg_mixed hp (fun j : Nat => j <= 5 /\ zco L j (zcU.drop j) p = zco L 0 zcU p) (fun j => [(4, .c (.d (.int .i64 j))), (3, .c (.d (.sl true 1 (encS zcU)))), (0, .c (.ptr 0 0)), (2, .c (.ptr 2 0))]) (fun j => [psB L p, .pin t 0, box4]) (fun j => 5 - j) 0 [0, 1, 2] ⟨by simp, rfl⟩ (by simp [encS, zcU]) fun j ⟨h1, h2⟩ => ?_
 unfold lp_gp_prim_0
 have hbl : zcU.length = 5 := rfl
 simp [hbl]
 refine gd.mk (fun h5 => ?_) (fun h5 => ?_)
 ·have hj : j < zcU.length := by simp at h5; omega
  have hj' : j < 5 := by omega
  rw [List.drop_eq_getElem_cons hj, zco] at h2
  have hg : zcU[j]? = some zcU[j] := List.getElem?_eq_getElem hj
  have ht := zaD zcU[j] p h hl
  generalize zcU[j] = s at *
  simp [hg]
  refine zaa.mk [0] ht (by simp) ?_
  by_cases q : (zab L s p).1 = true
  ·rw [if_pos q] at h2
   have hr : R = (.mk j (bs []) [] [], (zab L s p).2) := by rw [<- hR']; unfold zbC; rw [<- h2]
   rw [hr]
   simp [q]
   exact EndM.mkE [0] [1] (by simp [Typ.enc, Typ.encs, encS])
  ·rw [if_neg q] at h2
   rw [zaE q]
   rw [Bool.not_eq_true] at q
   simp [q]
   refine Abs.Next.mk (j + 1) [0, 1, 2] ⟨by omega, h2⟩ (by omega) ?_
   simp
   exact wrap_i64 (by omega) (by omega)
 ·have hj : j = 5 := by simp at h5; omega
  subst hj
  have h2 : zco L 0 zcU p = none := by rw [<- h2]; try rfl
  have ht := zaD (bs [40]) p h hl
  have hr : R = zk7 L ki p := by rw [<- hR']; unfold zbC; rw [h2]
  rw [hr]
  unfold zk7
  simp
  refine zaa.mk [0] ht (by simp) ?_
  by_cases q1 : (zab L (bs [40]) p).1 = true
  ·have t1 := zah hL h (s := bs [40])
   have t2 := t1.trans (hk _ t1.lt)
   have h3 := Hk _ t1.lt (by rw [t1.deep, hd])
   have h4 := zaI hL (bs [41]) _ t2.lt hl
   rw [if_pos q1]
   simp [q1]
   refine zaa.mk [0] h3 (by simp) ?_
   simp
   refine zaa.mk [0] h4 (by simp) ?_
   simp
   exact EndM.mk [0] [1] (by simp)
  ·rw [if_neg q1, zaE q1]
   rw [Bool.not_eq_true] at q1
   have h3 := zaD (bs [123]) p h hl
   simp [q1]
   refine zaa.mk [0] h3 (by simp) ?_
   by_cases q2 : (zab L (bs [123]) p).1 = true
   ·rw [if_pos q2]
    have t1 := zah hL h (s := bs [123])
    have h4 := zaD (bs [125]) _ t1.lt hl
    generalize (zab L (bs [123]) p).2 = p1 at *
    simp [q2]
    refine owK.mk [.c 3 2, .c 3 3] ?_
    simp
    refine zaa.mk [0] h4 (by simp) ?_
    by_cases q3 : (zab L (bs [125]) p1).1 = true
    ·rw [if_pos q3]
     simp [q3]
     refine fzK.mk [4, 5] ?_
     simp [zas]
     exact EndM.mkE [0] [1] (by simp [Typ.enc, Typ.encs, encS])
    ·rw [if_neg q3, zaE q3]
     rw [Bool.not_eq_true] at q3
     simp [q3]
     obtain ⟨F0, hF0⟩ : ∃ F0, zcV L ki (L.length + 1) [] [] p1 = F0 := ⟨_, rfl⟩
     rw [hF0]
     have hd1 : p1.deep = d := by rw [t1.deep, hd]
     refine W.loop Pg_mixed hp (fun x : Nat × List ByteArray × List Typ × PS => zcV L ki x.1 x.2.1 x.2.2.1 x.2.2.2 = F0 /\ Tm L p1 x.2.2.2 /\ L.length < x.1 + x.2.2.2.at' /\ x.2.1.length = x.2.2.1.length /\ x.2.1.length <= x.2.2.2.at')
      (fun x => [(0, .c (.ptr 0 0)), (2, .c (.ptr 2 0)), (8, .c (.ptr 3 0))])
      (fun x => [psB L x.2.2.2, .pin t 0, box4, .box [.d (.int .i64 5), .d (.str (bs [])), .msl 1 4 0 x.2.1.length, .msl 4 5 0 x.2.2.1.length], .arr 1 ((encS x.2.1).map (·.map .d)), .arr 4 ((x.2.2.1.map Typ.enc).map (·.map .d))])
      (fun x => x.1) (L.length + 1, [], [], p1) [0, 1, 2, 3, 4, 5] ⟨hF0, Tm.refl t1.lt, by simp only; omega, rfl, by simp⟩ (by simp [encS]) fun ⟨n, ns, ks, q⟩ ⟨i1, i2, i3, i4, i5⟩ => ?_
     unfold zhP
     simp only at i1 i2 i4 i5
     have i3 : L.length < n + q.at' := i3
     have hlt := i2.lt
     obtain ⟨n, rfl⟩ : ∃ m, n = m + 1 := ⟨n - 1, by omega⟩
     rw [zcV] at i1
     have e1 := zaK hL hlt
     have e2 := e1.trans (zap hL e1.lt (s := bs [58]))
     have e3 := e2.trans (hk _ e2.lt)
     have e4 := e3.trans (zah hL e3.lt (s := bs [44]))
     have c1 := zbw q hlt hl
     have c2 := zaI hL (bs [58]) _ e1.lt hl
     have c3 := Hk _ e2.lt (by rw [e2.deep, i2.deep, hd1])
     have c4 := zaD (bs [44]) _ e3.lt hl
     generalize (zaz L q).1 = s1 at *
     generalize (zaz L q).2 = q1' at *
     generalize zax L (bs [58]) q1' = q2' at *
     generalize (ki q2').1 = k1 at *
     generalize (ki q2').2 = q3' at *
     simp
     refine zaa.mk [0] c1 (by simp) ?_
     simp
     refine zaa.mk [0] c2 (by simp) ?_
     simp
     refine zaa.mk [0] c3 (by simp) ?_
     simp
     refine ⟨by omega, by omega, ?_⟩
     refine zaa.mk [0] c4 (by simp) ?_
     by_cases q5 : (zab L (bs [44]) q3').1 = true
     ·rw [if_pos q5] at i1
      have ha := (zaL q5).1
      have hb' := e3.le
      simp [q5]
      refine Abs.Next.mk (n, ns ++ [s1], ks ++ [k1], (zab L (bs [44]) q3').2) [0, 1, 2, 3, 7, 8] ⟨i1, i2.trans e4, by simp only; omega, by simp [i4], by simp; omega⟩ (by simp) ?_
      simp
      exact ⟨List.take_of_length_le (by simp), List.take_of_length_le (by simp)⟩
     ·rw [if_neg q5, zaE q5] at i1
      rw [<- i1]
      have c5 := zaI hL (bs [125]) _ e3.lt hl
      rw [zaE q5]
      rw [Bool.not_eq_true] at q5
      simp [q5]
      refine fzK.mk [7, 8] ?_
      have k1' : List.take ns.length (List.map (fun x => List.map AC.d x) (encS ns)) = List.map (fun x => List.map AC.d x) (encS ns) := List.take_of_length_le (by simp)
      have k2' : List.take ks.length (List.map ((fun x => List.map AC.d x) ∘ Typ.enc) ks) = List.map ((fun x => List.map AC.d x) ∘ Typ.enc) ks := List.take_of_length_le (by simp)
      simp [zas, k1', k2']
      refine zaa.mk [0] c5 (by simp) ?_
      simp [zas, k1', k2']
      have z1 : D.erdE (List.take (ns.length + 1) (encS ns ++ [[D.str s1]])) = encS ns ++ [[D.str s1]] := by
       rw [List.take_of_length_le (by simp)]
       simpa only [encS_app, znf] using zf2 (ns ++ [s1])
      have z2 : D.erdE (List.take (ks.length + 1) (ks.map Typ.enc ++ [k1.enc])) = ks.map Typ.enc ++ [k1.enc] := by
       rw [List.take_of_length_le (by simp)]
       simpa using zng (ks ++ [k1])
      exact EndM.mkE [0] [1] (by simp [Typ.enc, Typ.encs_map, zas, k1', k2', z1, z2])
   ·rw [if_neg q2, zaE q2]
    rw [Bool.not_eq_true] at q2
    have h4 := zbw p h hl
    simp [q2]
    refine zaa.mk [0] h4 (by simp) ?_
    simp
    exact EndM.mkE [0] [1] (by simp [Typ.enc, Typ.encs, encS])
theorem znj {ki : PS -> Typ × PS} : ∀ (n : Nat) (l : List Typ) (p : PS), 1 <= l.length -> 1 <= (altN L ki n l p).1.length
 | 0, l, p, h => h
 | n + 1, l, p, h => by
  rw [altN]
  split
  ·exact znj n _ _ (by simp)
  ·exact h
set_option maxRecDepth 20000 in
set_option maxHeartbeats 2000000 in
theorem zuB (hL : OkL L) (hl : L.length <= 10000) {d : Nat} {ki : PS -> Typ × PS} (hk : Tame L ki) (Hk : KiOk L d ki) (p : PS) (h : p.at' < L.length) (hd : p.deep = d) :
  MCall Pg F.gp_alt [.c (.ptr 0 0)] [psB L p] (.ag ((altP L ki p).1.enc.map .d)) [psB L (altP L ki p).2] := by
 refine zrU ⟨by simp, by simp, by simp, by simp, by simp, by simp, by simp⟩ fun ts hts ok hb c hN hp => ?_
 obtain ⟨t, rfl⟩ := zaR hts
 have c1 := zni hL hl hk Hk p h hd
 have t1 := zgd hL hk p h
 have hpos := znj (L := L) (ki := ki) (L.length + 1) [(zbC L ki p).1] (zbC L ki p).2 (by simp)
 unfold zme altP
 simp only
 obtain ⟨F0, hF0⟩ : ∃ F0, altN L ki (L.length + 1) [(zbC L ki p).1] (zbC L ki p).2 = F0 := ⟨_, rfl⟩
 rw [hF0] at hpos ⊢
 generalize (zbC L ki p).1 = T1 at *
 generalize (zbC L ki p).2 = p1 at *
 simp
 refine zaa.mk [0] c1 (by simp) ?_
 simp
 refine W.loop Pg_mixed hp (fun x : Nat × List Typ × PS => altN L ki x.1 x.2.1 x.2.2 = F0 /\ Tm L p1 x.2.2 /\ L.length < x.1 + x.2.2.at' /\ x.2.1.length <= x.2.2.at' + 1)
  (fun x => [(0, .c (.ptr 0 0)), (2, .c (.ptr 2 0)), (3, .c (.msl 4 3 0 x.2.1.length))])
  (fun x => [psB L x.2.2, .pin t 0, box4, .arr 4 ((x.2.1.map Typ.enc).map (·.map .d))])
  (fun x => x.1) (L.length + 1, [T1], p1) [0, 1, 2, 3] ⟨hF0, Tm.refl t1.lt, by simp only; omega, by simp⟩ (by simp) fun ⟨n, l, q⟩ ⟨i1, i2, i3, i4⟩ => ?_
 unfold lp_gp_alt_0
 simp only at i1 i2 i4
 have i3 : L.length < n + q.at' := i3
 have hlt := i2.lt
 obtain ⟨n, rfl⟩ : ∃ m, n = m + 1 := ⟨n - 1, by omega⟩
 rw [altN] at i1
 have e1 := zah hL hlt (s := bs [124])
 have a1 := zaD (bs [124]) q hlt hl
 simp
 refine zaa.mk [0] a1 (by simp) ?_
 by_cases q1 : (zab L (bs [124]) q).1 = true
 ·rw [if_pos q1] at i1
  have i1 : altN L ki n (l ++ [(zbC L ki (zab L (bs [124]) q).2).1]) (zbC L ki (zab L (bs [124]) q).2).2 = F0 := i1
  have ha := (zaL q1).1
  have e2 := e1.trans (zgd hL hk _ e1.lt)
  have hle := (zgd hL hk _ e1.lt).le
  have a2 := zni hL hl hk Hk _ e1.lt (by rw [e1.deep, i2.deep, t1.deep, hd])
  generalize (zab L (bs [124]) q).2 = q2 at *
  generalize (zbC L ki q2).1 = T2 at *
  generalize (zbC L ki q2).2 = q3 at *
  simp [q1]
  refine zaa.mk [0] a2 (by simp) ?_
  simp
  refine ⟨by omega, ?_⟩
  refine Abs.Next.mk (n, l ++ [T2], q3) [0, 1, 2, 5] ⟨i1, i2.trans e2, by simp only; omega, by simp; omega⟩ (by simp) ?_
  simp
  exact List.take_of_length_le (by simp)
 ·rw [if_neg q1] at i1
  rw [zaE q1]
  rw [Bool.not_eq_true] at q1
  rw [<- i1] at hpos ⊢
  simp only at hpos ⊢
  by_cases hl1 : l.length = 1
  ·obtain ⟨T, rfl⟩ : ∃ T, l = [T] := by
    match l, hl1 with
    | [T], _ => exact ⟨T, rfl⟩
   have ho : zq9 [T] = T := rfl
   rw [ho]
   simp [q1]
   refine fzK.mk [3] ?_
   simp [zas]
   exact EndM.mk [0] [1] (by simp)
  ·have htk : List.take l.length (List.map ((fun x => List.map AC.d x) ∘ Typ.enc) l) = List.map ((fun x => List.map AC.d x) ∘ Typ.enc) l := List.take_of_length_le (by simp)
   have hne : ¬ ((l.length : Int) = 1) := by omega
   rw [zt5 hl1]
   simp [q1]
   refine fzK.mk [3] ?_
   simp [zas, htk, hne, hl1]
   have z : D.erdE (List.take l.length (l.map Typ.enc)) = l.map Typ.enc := by
    rw [List.take_of_length_le (by simp)]
    exact zng l
   exact EndM.mkE [0] [1] (by simp [Typ.enc, Typ.encs_map, encS, z])
set_option maxRecDepth 20000 in
set_option maxHeartbeats 1000000 in
theorem zjw (hL : OkL L) (hl : L.length <= 10000) : ∀ (n : Nat) (p : PS), p.at' < L.length -> p.deep <= 100 -> 101 <= p.deep + n -> MCall Pg F.gp_Kind [.c (.ptr 0 0)] [psB L p] (.ag ((zcy L n p).1.enc.map .d)) [psB L (zcy L n p).2]
 | 0, p, h, h1, h2 => by omega
 | n + 1, p, h, h1, h2 => by
  have ce := zhV p h (by omega)
  refine zqv ⟨by simp, by simp, by simp, by simp, by simp, by simp, by simp⟩ fun ts hts ok hb c hN hp => ?_
  obtain ⟨t, rfl⟩ := zaR hts
  have hR : zcy L (n + 1) p = if (zau L p).1 = true then zcd (zk8 L (zcy L n) (zau L p).2) else (noT, (zau L p).2) := by rw [zcy]
  rw [hR]
  unfold zkv
  simp
  refine zaa.mk [0] ce (by simp) ?_
  by_cases q : (zau L p).1 = true
  ·rw [if_pos q]
   obtain ⟨e1, e2, e3⟩ := zb3 q
   have hk := zls hL n
   have Hk : KiOk L (p.deep + 1) (zcy L n) := fun r hr hd => zjw hL hl n r hr (by omega) (by omega)
   have hp1 : (zau L p).2.at' < L.length := by rw [e1]; exact h
   have hd1 : (zau L p).2.deep = p.deep + 1 := by rw [e1]
   have a1 := zuB hL hl hk Hk _ hp1 hd1
   have t1 := zr0 hL hk _ hp1
   have a2 := zaD (bs [45, 62]) _ t1.lt hl
   have t2 := t1.trans (zah hL t1.lt (s := bs [45, 62]))
   unfold zcd zk8
   simp only
   generalize (zau L p).2 = p1 at *
   generalize (altP L (zcy L n) p1).1 = T1 at *
   generalize (altP L (zcy L n) p1).2 = p2 at *
   simp [q]
   refine zaa.mk [0] a1 (by simp) ?_
   simp
   refine zaa.mk [0] a2 (by simp) ?_
   by_cases q2 : (zab L (bs [45, 62]) p2).1 = true
   ·rw [if_pos q2]
    have a3 := Hk _ t2.lt (by rw [t2.deep, hd1])
    have hd3 := (t2.trans (hk _ t2.lt)).deep
    simp only
    simp only [hd1] at hd3
    generalize (zab L (bs [45, 62]) p2).2 = p3 at *
    generalize (zcy L n p3).1 = T3 at *
    generalize (zcy L n p3).2 = p4 at *
    simp [q2]
    refine zaa.mk [0] a3 (by simp) ?_
    simp
    have hw : IntKind.i64.wrap ((p4.deep : Int) - 1) = ((p4.deep - 1 : Nat) : Int) := by rw [wrap_i64 (by omega) (by omega)]; omega
    exact EndM.mkE [0] [1] (by simp [Typ.enc, Typ.encs, encS, hw])
   ·rw [if_neg q2, zaE q2]
    have hd3 := t1.deep
    rw [hd1] at hd3
    rw [Bool.not_eq_true] at q2
    simp [q2]
    have hw : IntKind.i64.wrap ((p2.deep : Int) - 1) = ((p2.deep - 1 : Nat) : Int) := by rw [wrap_i64 (by omega) (by omega)]; omega
    exact EndM.mk [0] [1] (by simp [hw])
  ·rw [if_neg q]
   rw [Bool.not_eq_true] at q
   simp [q]
   exact EndM.mkE [0] [1] (by simp [noT, Typ.enc, Typ.encs, encS])
end
end Go.Gr
namespace Go.Gr
open Go.Abs Go.Proofs
mutual
theorem Nod.erdL : ∀ t : Nod, D.erdL t.enc = t.enc
 | .mk k t n a b ts ns ks => by
  simp only [Nod.enc, D.erdL, D.erd, zf2, zng, Nod.erdE ks]
theorem Nod.erdE : ∀ l : List Nod, D.erdE (Nod.encs l) = Nod.encs l
 | [] => rfl
 | t :: l => by simp only [Nod.encs, D.erdE, Nod.erdL t, Nod.erdE l]
end
attribute [simp] Nod.erdL Nod.erdE
@[simp] theorem zvh (l : List Nod) : D.erdE (l.map Nod.enc) = l.map Nod.enc := by rw [<- Nod.encs_map]; exact Nod.erdE l
def NoOk (L : List Tok) (f : FuncId) (d : Nat) (ex : PS -> Nod × PS) : Prop := ∀ p : PS, p.at' < L.length -> p.deep = d -> MCall Pg f [.c (.ptr 0 0)] [psB L p] (.ag ((ex p).1.enc.map .d)) [psB L (ex p).2]
section
variable {L : List Tok}
theorem zfP (k : Int) (p : PS) (h : p.at' < L.length) : MCall Pg F.gp_at [.c (.ptr 0 0), .c (.d (.int .i64 k))] [psB L p] (.ag [.d (.int .i64 k), .d (.str (bs [])), .d (.int .i64 0), .d (.int .i64 (curT L p).line), .d (.int .i64 (curT L p).col), .d (.sl true 4 []), .d (.sl true 1 []), .d (.sl true 8 [])]) [psB L p] := by
 refine zts ⟨by simp, by simp, by simp, by simp, by simp, by simp, by simp⟩ fun ts hts ok hb c hN hp => ?_
 obtain ⟨t, rfl⟩ := zaR hts
 have hg := zcr h
 unfold znL
 simp [hg]
 refine ⟨by decide, ?_⟩
 exact EndM.mk [0] [1] (by simp)
theorem zeT (hL : OkL L) (hl : L.length <= 10000) {d : Nat} {ki : PS -> Typ × PS} (Hk : KiOk L d ki) (p : PS) (h : p.at' < L.length) (hd : p.deep = d) :
  MCall Pg F.gp_note [.c (.ptr 0 0)] [psB L p] (.c (.d (.sl true 4 ((zbe L ki p).1.map Typ.enc)))) [psB L (zbe L ki p).2] := by
 refine zqx ⟨by simp, by simp, by simp, by simp, by simp, by simp, by simp⟩ fun ts hts ok hb c hN hp => ?_
 obtain ⟨t, rfl⟩ := zaR hts
 have c1 := zaD (bs [58]) p h hl
 unfold zkx zbe
 simp
 refine zaa.mk [0] c1 (by simp) ?_
 by_cases q : (zab L (bs [58]) p).1 = true
 ·have t1 := zah hL h (s := bs [58])
  have c2 := Hk _ t1.lt (by rw [t1.deep, hd])
  rw [if_pos q]
  simp [q]
  refine zaa.mk [0] c2 (by simp) ?_
  simp
  exact EndM.mk [0] [1] (by simp)
 ·rw [if_neg q, zaE q]
  rw [Bool.not_eq_true] at q
  simp [q]
  exact EndM.mk [0] [1] (by simp)
theorem zez (ki : PS -> Typ × PS) (q : PS) : (zbe L ki q).1 = [] \/ ∃ T, (zbe L ki q).1 = [T] := by
 unfold zbe; split
 ·exact .inr ⟨_, rfl⟩
 ·exact .inl rfl
set_option maxRecDepth 20000 in
theorem zsZ (hL : OkL L) (hl : L.length <= 10000) {d : Nat} {ki : PS -> Typ × PS} (hk : Tame L ki) (Hk : KiOk L d ki) (p : PS) (h : p.at' < L.length) (hd : p.deep = d) :
  MCall Pg F.gp_head [.c (.ptr 0 0)] [psB L p] (.tup [.c (.d (.str (zbD L ki p).1.1)), .c (.d (.sl false 4 ((zbD L ki p).1.2.map Typ.enc)))]) [psB L (zbD L ki p).2] := by
 refine zdw ⟨by simp, by simp, by simp, by simp, by simp, by simp, by simp⟩ fun ts hts ok hb c hN hp => ?_
 obtain ⟨t, rfl⟩ := zaR hts
 have t1 := zap hL h (s := bs [40])
 have t2 := t1.trans (zaK hL t1.lt)
 have t3 := t2.trans (zdo hL hk _ t2.lt)
 have t4 := t3.trans (zap hL t3.lt (s := bs [41]))
 have c1 := zaI hL (bs [40]) p h hl
 have c2 := zbw _ t1.lt hl
 have c3 := zeT hL hl Hk _ t2.lt (by rw [t2.deep, hd])
 have c4 := zaI hL (bs [41]) _ t3.lt hl
 have c5 := zeT hL hl Hk _ t4.lt (by rw [t4.deep, hd])
 have n1 := zez (L := L) ki (zaz L (zax L (bs [40]) p)).2
 have n2 := zez (L := L) ki (zax L (bs [41]) (zbe L ki (zaz L (zax L (bs [40]) p)).2).2)
 unfold zcP zbD
 simp only
 generalize zax L (bs [40]) p = p1 at *
 generalize (zaz L p1).1 = s1 at *
 generalize (zaz L p1).2 = p2 at *
 generalize (zbe L ki p2).1 = A at *
 generalize (zbe L ki p2).2 = p3 at *
 generalize zax L (bs [41]) p3 = p4 at *
 generalize (zbe L ki p4).1 = B at *
 generalize (zbe L ki p4).2 = p5 at *
 simp
 refine zaa.mk [0] c1 (by simp) ?_
 simp
 refine zaa.mk [0] c2 (by simp) ?_
 simp
 refine zaa.mk [0] c3 (by simp) ?_
 simp
 refine zaa.mk [0] c4 (by simp) ?_
 simp
 refine zaa.mk [0] c5 (by simp) ?_
 have hn : noT.enc = [.int .i64 0, .str (bs []), .sl false 1 [], .sl false 4 []] := rfl
 rcases n1 with rfl | ⟨T, rfl⟩ <;> rcases n2 with rfl | ⟨U, rfl⟩ <;> simp
 ·refine fzK.mk [] ?_
  simp
  exact EndM.mkE [0] [1] (by simp [hn, AV.erds])
 ·refine fzK.mk [2] ?_
  simp [zas]
  exact EndM.mkE [0] [1] (by simp [hn, AV.erds])
 ·refine fzK.mk [] ?_
  simp
  exact EndM.mkE [0] [1] (by simp [hn, AV.erds])
 ·refine fzK.mk [2] ?_
  simp [zas]
  exact EndM.mkE [0] [1] (by simp [hn, AV.erds])
def RkOk (L : List Tok) (d : Nat) (k : Int) (rk : PS -> Nod × PS) : Prop := ∀ p : PS, p.at' < L.length -> p.deep = d -> MCall Pg F.gp_rank [.c (.ptr 0 0), .c (.d (.int .i64 k))] [psB L p] (.ag ((rk p).1.enc.map .d)) [psB L (rk p).2]
theorem zaN (p : PS) (k : Int) (t : ByteArray) (n : Int) (ts : List Typ) (ns : List ByteArray) (ks : List Nod) : (mkN L p k t n ts ns ks).enc = [.int .i64 k, .str t, .int .i64 n, .int .i64 (curT L p).line, .int .i64 (curT L p).col, .sl false 4 (ts.map Typ.enc), .sl false 1 (encS ns), .sl false 8 (ks.map Nod.enc)] := by
 unfold mkN; rw [Nod.enc_eq]; try rfl
set_option maxRecDepth 20000 in
set_option maxHeartbeats 2000000 in
theorem zs0 (hL : OkL L) (hl : L.length <= 10000) {d : Nat} {ki : PS -> Typ × PS} {ex rk : PS -> Nod × PS} (hk : Tame L ki) (Hk : KiOk L d ki) (he : Tame L ex) (He : NoOk L F.gp_Expr d ex) (Hr : RkOk L d 0 rk) (p : PS) (h : p.at' < L.length) (hd : p.deep = d) :
  MCall Pg F.gp_expr [.c (.ptr 0 0)] [psB L p] (.ag ((zfG L ki ex rk p).1.enc.map .d)) [psB L (zfG L ki ex rk p).2] := by
 refine zqz ⟨by simp, by simp, by simp, by simp, by simp, by simp, by simp⟩ fun ts hts ok hb c hN hp => ?_
 obtain ⟨t, rfl⟩ := zaR hts
 have c0 := zfP (L := L) 5 p h
 have c1 := zaD wLet p h hl
 unfold zkz zfG
 simp
 refine zaa.mk [0] c0 (by simp) ?_
 simp
 refine zaa.mk [0] c1 (by simp) ?_
 by_cases q1 : (zab L wLet p).1 = true
 ·rw [if_pos q1]
  have t1 := zah hL h (s := wLet)
  have t2 := t1.trans (zaK hL t1.lt)
  have t3 := t2.trans (zdo hL hk _ t2.lt)
  have t4 := t3.trans (zap hL t3.lt (s := bs [61]))
  have t5 := t4.trans (he _ t4.lt)
  have t6 := t5.trans (zap hL t5.lt (s := bs [59]))
  have a1 := zbw _ t1.lt hl
  have a2 := zeT hL hl Hk _ t2.lt (by rw [t2.deep, hd])
  have a3 := zaI hL (bs [61]) _ t3.lt hl
  have a4 := He _ t4.lt (by rw [t4.deep, hd])
  have a5 := zaI hL (bs [59]) _ t5.lt hl
  have a6 := He _ t6.lt (by rw [t6.deep, hd])
  generalize (zab L wLet p).2 = p1 at *
  generalize (zaz L p1).1 = s1 at *
  generalize (zaz L p1).2 = p2 at *
  generalize (zbe L ki p2).1 = A at *
  generalize (zbe L ki p2).2 = p3 at *
  generalize zax L (bs [61]) p3 = p4 at *
  generalize (ex p4).1 = V at *
  generalize (ex p4).2 = p5 at *
  generalize zax L (bs [59]) p5 = p6 at *
  generalize (ex p6).1 = B at *
  generalize (ex p6).2 = p7 at *
  simp [q1]
  refine zaa.mk [0] a1 (by simp) ?_
  simp
  refine zaa.mk [0] a2 (by simp) ?_
  simp
  refine zaa.mk [0] a3 (by simp) ?_
  simp
  refine zaa.mk [0] a4 (by simp) ?_
  simp
  refine zaa.mk [0] a5 (by simp) ?_
  simp
  refine zaa.mk [0] a6 (by simp) ?_
  simp
  exact EndM.mkE [0] [1] (by simp [zaN, encS])
 ·rw [if_neg q1, zaE q1]
  rw [Bool.not_eq_true] at q1
  have c2 := zaD wIf p h hl
  simp [q1]
  refine zaa.mk [0] c2 (by simp) ?_
  by_cases q2 : (zab L wIf p).1 = true
  ·rw [if_pos q2]
   have t1 := zah hL h (s := wIf)
   have t2 := t1.trans (he _ t1.lt)
   have t3 := t2.trans (zap hL t2.lt (s := ziC))
   have t4 := t3.trans (he _ t3.lt)
   have t5 := t4.trans (zap hL t4.lt (s := ziD))
   have a1 := He _ t1.lt (by rw [t1.deep, hd])
   have a2 := zaI hL ziC _ t2.lt hl
   have a3 := He _ t3.lt (by rw [t3.deep, hd])
   have a4 := zaI hL ziD _ t4.lt hl
   have a5 := He _ t5.lt (by rw [t5.deep, hd])
   generalize (zab L wIf p).2 = p1 at *
   generalize (ex p1).1 = C at *
   generalize (ex p1).2 = p2 at *
   generalize zax L ziC p2 = p3 at *
   generalize (ex p3).1 = A at *
   generalize (ex p3).2 = p4 at *
   generalize zax L ziD p4 = p5 at *
   generalize (ex p5).1 = B at *
   generalize (ex p5).2 = p6 at *
   simp [q2]
   refine zaa.mk [0] a1 (by simp) ?_
   simp
   refine zaa.mk [0] a2 (by simp) ?_
   simp
   refine zaa.mk [0] a3 (by simp) ?_
   simp
   refine zaa.mk [0] a4 (by simp) ?_
   simp
   refine zaa.mk [0] a5 (by simp) ?_
   simp
   exact EndM.mkE [0] [1] (by simp [zaN, encS])
  ·rw [if_neg q2, zaE q2]
   rw [Bool.not_eq_true] at q2
   have c3 := zaD wFn p h hl
   simp [q2]
   refine zaa.mk [0] c3 (by simp) ?_
   by_cases q3 : (zab L wFn p).1 = true
   ·rw [if_pos q3]
    have t1 := zah hL h (s := wFn)
    have t2 := t1.trans (zeM hL hk _ t1.lt)
    have t3 := t2.trans (zap hL t2.lt (s := bs [61, 62]))
    have a1 := zsZ hL hl hk Hk _ t1.lt (by rw [t1.deep, hd])
    have a2 := zaI hL (bs [61, 62]) _ t2.lt hl
    have a3 := He _ t3.lt (by rw [t3.deep, hd])
    generalize (zab L wFn p).2 = p1 at *
    generalize (zbD L ki p1).1.1 = s1 at *
    generalize (zbD L ki p1).1.2 = A at *
    generalize (zbD L ki p1).2 = p2 at *
    generalize zax L (bs [61, 62]) p2 = p3 at *
    generalize (ex p3).1 = B at *
    generalize (ex p3).2 = p4 at *
    simp [q3]
    refine zaa.mk [0] a1 (by simp) ?_
    simp
    refine zaa.mk [0] a2 (by simp) ?_
    simp
    refine zaa.mk [0] a3 (by simp) ?_
    simp
    exact EndM.mkE [0] [1] (by simp [zaN, encS])
   ·rw [if_neg q3, zaE q3]
    rw [Bool.not_eq_true] at q3
    have a1 := Hr p h hd
    simp [q3]
    refine zaa.mk [0] a1 (by simp) ?_
    simp
    exact EndM.mk [0] [1] (by simp)
end
end Go.Gr
namespace Go.Gr
open Go.Abs Go.Proofs
theorem znr : ∀ v : List D, (D.erdL v).length = v.length
 | [] => rfl
 | d :: v => by simp only [D.erdL, List.length_cons, znr v]
@[simp] theorem zw0 (v : List D) : List.map (AC.erd ∘ AC.d) v = (D.erdL v).map .d := by rw [<- List.map_map, znh]
theorem zkd {v : List D} {a : Nod} (h : D.erdL v = a.enc) : v.length = 8 := by rw [<- znr, h]; simp
theorem zrG {v : List D} {a : Nod} (h : D.erdL v = a.enc) : cut (v.map AC.d) 0 8 = v.map .d := by
 have := zkd h
 unfold cut
 simp [this]
theorem zpv {v : List D} {a : Nod} (h : D.erdL v = a.enc) : cut v 0 8 = v := by
 have := zkd h
 unfold cut
 simp [this]
abbrev rkT : List (List D) := [[.sl true 1 [[.str (bs [111, 114])]]], [.sl true 1 [[.str (bs [97, 110, 100])]]], [.sl true 1 []], [.sl true 1 [[.str (bs [43, 43])]]], [.sl true 1 [[.str (bs [43])], [.str (bs [45])], [.str (bs [94])]]], [.sl true 1 [[.str (bs [42])], [.str (bs [47])], [.str (bs [37])], [.str (bs [38])], [.str (bs [60, 60])], [.str (bs [62, 62])]]]]
theorem zuG {k : Nat} (h : k < 6) : rkT[k]? = some [.sl true 1 (encS (zbK k))] := by
 match k, h with
 | 0, _ => rfl
 | 1, _ => rfl
 | 2, _ => rfl
 | 3, _ => rfl
 | 4, _ => rfl
 | 5, _ => rfl
theorem zrH {k : Nat} : (zbK k).length <= 6 := by
 unfold zbK
 split <;> simp
section
variable {L : List Tok}
def opsI (L : List Tok) (rk : PS -> Nod × PS) (signs : List ByteArray) (n i : Nat) (a : Nod) (p : PS) : Nod × PS := match zcW L (signs.drop i) p with
 | none => (a, p)
 | some (s, q) => opsP L rk signs n (mkN L p 14 s 0 [] [] [a, (rk q).1]) (rk q).2
theorem zuj (rk : PS -> Nod × PS) (signs : List ByteArray) (n : Nat) (a : Nod) (p : PS) : opsP L rk signs (n + 1) a p = opsI L rk signs n 0 a p := by
 rw [opsP]; unfold opsI; rw [List.drop_zero]; try rfl
abbrev box8 : Blk := .box [.d (.int .i64 0), .d (.str (bs [])), .d (.int .i64 0), .d (.int .i64 0), .d (.int .i64 0), .d (.sl true 4 []), .d (.sl true 1 []), .d (.sl true 8 [])]
set_option maxRecDepth 20000 in
set_option maxHeartbeats 2000000 in
theorem ze1 (hL : OkL L) (hl : L.length <= 10000) {d k : Nat} (hk : k < 6) (hk2 : k ≠ 2) {rk : PS -> Nod × PS} (hr : Tame L rk) (Hr : RkOk L d (k + 1 : Nat) rk) :
  RkOk L d k (fun p => opsP L rk (zbK k) (L.length + 1) (rk p).1 (rk p).2) := by
 intro p h hd
 refine zgJ ⟨by simp, by simp, by simp, by simp, by simp, by simp, by simp⟩ fun ts hts ok hb c hN hp => ?_
 obtain ⟨t, rfl⟩ := zaR hts
 have c1 := Hr p h hd
 have t1 := hr p h
 have h6 : ¬ ((k : Int) = 6) := by omega
 have h2 : ¬ ((k : Int) = 2) := by omega
 have hw : IntKind.i64.wrap ((k : Int) + 1) = ((k + 1 : Nat) : Int) := by rw [wrap_i64 (by omega) (by omega)]; omega
 have hT := zuG hk
 have hs6 := zrH (k := k)
 simp only
 obtain ⟨F0, hF0⟩ : ∃ F0, opsP L rk (zbK k) (L.length + 1) (rk p).1 (rk p).2 = F0 := ⟨_, rfl⟩
 rw [hF0]
 rw [zuj] at hF0
 generalize (rk p).1 = A at *
 generalize (rk p).2 = p1 at *
 unfold zeB
 simp [h6, h2, hw]
 refine zaa.mk [0] c1 (by simp) ?_
 generalize zbK k = sg at *
 have hd1 : p1.deep = d := by rw [t1.deep, hd]
 simp
 generalize hTT : rkT = TT at *
 refine W.loop Pg_mixed hp (fun x : Nat × Nat × Nod × List D × PS => opsI L rk sg x.1 x.2.1 x.2.2.1 x.2.2.2.2 = F0 /\ Tm L p1 x.2.2.2.2 /\ L.length < x.1 + 1 + x.2.2.2.2.at' /\ x.2.1 <= sg.length /\ D.erdL x.2.2.2.1 = x.2.2.1.enc)
  (fun x => [(0, .c (.ptr 0 0)), (1, .c (.d (.int .i64 k))), (4, .c (.ptr 2 0)), (5, .c (.d (.sl true 1 TT))), (6, .c (.ptr 3 0)), (7, .c (.d (.int .i64 x.2.1)))])
  (fun x => [psB L x.2.2.2.2, .pin t 0, box8, .box (x.2.2.2.1.map .d)])
  (fun x => x.1 * 7 + (sg.length - x.2.1)) (L.length, 0, A, A.enc, p1) [0, 1, 2, 3] ⟨hF0, Tm.refl t1.lt, by simp only; omega, by simp, by simp⟩ (by simp [<- hTT]) fun ⟨n, i, a, v, q⟩ ⟨i1, i2, i3, i4, i5⟩ => ?_
 unfold lp_gp_rank_0
 simp only at i1 i2 i4 i5
 have i3 : L.length < n + 1 + q.at' := i3
 have hlt := i2.lt
 have hcut := zrG i5
 have hcut' := zpv i5
 have hvl := zkd i5
 simp [hT]
 refine gd.mk (fun hj => ?_) (fun hj => ?_)
 ·have hj : i < sg.length := by simpa using hj
  have hg : sg[i]? = some sg[i] := List.getElem?_eq_getElem hj
  have a0 := zfP (L := L) 14 q hlt
  have a1 := zaD sg[i] q hlt hl
  unfold opsI at i1
  rw [List.drop_eq_getElem_cons hj, zcW] at i1
  generalize sg[i] = s at *
  refine zaa.mk [0] a0 (by simp) ?_
  simp [hT, hg]
  refine zaa.mk [0] a1 (by simp) ?_
  by_cases q1 : (zab L s q).1 = true
  ·rw [if_pos q1] at i1
   simp only at i1
   have ha := (zaL q1).1
   have e1 := zah hL hlt (s := s)
   have a2 := Hr _ e1.lt (by rw [e1.deep, i2.deep, hd1])
   have e2 := e1.trans (hr _ e1.lt)
   have hle := (hr _ e1.lt).le
   obtain ⟨n, rfl⟩ : ∃ m, n = m + 1 := ⟨n - 1, by have := e1.lt; omega⟩
   rw [zuj] at i1
   generalize (zab L s q).2 = q2 at *
   generalize (rk q2).1 = B at *
   generalize (rk q2).2 = q3 at *
   simp [q1, hw]
   refine zaa.mk [0] a2 (by simp) ?_
   simp [hT, hg, hvl, hcut, hcut']
   refine Abs.Next.mk (n, 0, mkN L q 14 s 0 [] [] [a, B], ([.int .i64 14, .str s, .int .i64 0, .int .i64 (curT L q).line, .int .i64 (curT L q).col, .sl true 4 [], .sl true 1 [], .sl true 8 [v, B.enc]] : List D), q3) [0, 1, 2, 3] ⟨i1, i2.trans e2, by simp only; omega, by simp, ?_⟩ (by simp; omega) ?_
   ·simp [zaN, i5, encS]
   ·simp
  ·rw [if_neg q1] at i1
   rw [zaE q1]
   rw [Bool.not_eq_true] at q1
   simp [q1]
   refine Abs.Next.mk (n, i + 1, a, v, q) [0, 1, 2, 3] ⟨i1, i2, by simp only; omega, by simp only; omega, i5⟩ (by simp only; omega) ?_
   simp
   exact wrap_i64 (by omega) (by omega)
 ·have hj : i = sg.length := by simp at hj; omega
  subst hj
  unfold opsI at i1
  rw [List.drop_length, zcW] at i1
  have i1 : (a, q) = F0 := i1
  rw [<- i1]
  simp [hvl, hcut]
  exact EndM.mkE [0] [1] (by simp [hcut, i5])
theorem zrI {d : Nat} {un : PS -> Nod × PS} (Hu : NoOk L F.gp_unary d un) : RkOk L d 6 un := by
 intro p h hd
 refine zgJ ⟨by simp, by simp, by simp, by simp, by simp, by simp, by simp⟩ fun ts hts ok hb c hN hp => ?_
 obtain ⟨t, rfl⟩ := zaR hts
 have c1 := Hu p h hd
 unfold zeB
 simp
 refine zaa.mk [0] c1 (by simp) ?_
 simp
 exact EndM.mk [0] [1] (by simp)
theorem zrJ {d : Nat} {un : PS -> Nod × PS} (Hu : NoOk L F.gp_cmp d un) : RkOk L d 2 un := by
 intro p h hd
 refine zgJ ⟨by simp, by simp, by simp, by simp, by simp, by simp, by simp⟩ fun ts hts ok hb c hN hp => ?_
 obtain ⟨t, rfl⟩ := zaR hts
 have c1 := Hu p h hd
 unfold zeB
 simp
 refine zaa.mk [0] c1 (by simp) ?_
 simp
 exact EndM.mk [0] [1] (by simp)
end
end Go.Gr
