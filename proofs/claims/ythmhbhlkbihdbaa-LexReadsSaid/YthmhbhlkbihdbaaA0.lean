/- The plain answers of the lexer: functions on lists of bytes; no program in sight. -/
namespace LexP

def letterI (c : Int) : Bool := (decide (97 ≤ c) && decide (c ≤ 122)) || (decide (65 ≤ c) && decide (c ≤ 90)) || (c == 95)
def digitI (c : Int) : Bool := decide (48 ≤ c) && decide (c ≤ 57)
def wordC (c : UInt8) : Bool := letterI c.toNat || digitI c.toNat
def wsI (c : Int) : Bool := c == 32 || c == 9 || c == 10 || c == 13

def wrun : List UInt8 → Nat
  | [] => 0
  | c :: r => if wordC c then wrun r + 1 else 0

def headIs (n : Int) : List UInt8 → Bool
  | [] => false
  | c :: _ => (c.toNat : Int) == n

/-- how many bytes of blanks and remarks; true: inside a remark -/
def blankGo : Bool → List UInt8 → Nat
  | _, [] => 0
  | true, c :: r => if (c.toNat : Int) == 10 then blankGo false r + 1 else blankGo true r + 1
  | false, c :: r => if wsI c.toNat then blankGo false r + 1 else if (c.toNat : Int) == 47 && headIs 47 r then blankGo true r + 1 else 0

def wordL (l : List UInt8) : Bool :=
  l == [112, 97, 99, 107, 97, 103, 101] || l == [105, 109, 112, 111, 114, 116] || l == [99, 111, 110, 115, 116] || l == [118, 97, 114] || l == [116, 121, 112, 101] || l == [115, 116, 114, 117, 99, 116] || l == [105, 110, 116, 101, 114, 102, 97, 99, 101] || l == [102, 117, 110, 99] || l == [105, 102] || l == [101, 108, 115, 101] || l == [102, 111, 114] || l == [98, 114, 101, 97, 107] || l == [99, 111, 110, 116, 105, 110, 117, 101] || l == [114, 101, 116, 117, 114, 110] || l == [105, 110, 116] || l == [98, 111, 111, 108] || l == [115, 116, 114, 105, 110, 103] || l == [116, 114, 117, 101] || l == [102, 97, 108, 115, 101] || l == [110, 105, 108] || l == [97, 110, 121] || l == [99, 111, 109, 112, 97, 114, 97, 98, 108, 101] || l == [108, 101, 110] || l == [97, 112, 112, 101, 110, 100] || l == [109, 97, 107, 101] || l == [112, 97, 110, 105, 99] || l == [112, 117, 116] || l == [103, 101, 116]

def headLetter : List UInt8 → Bool
  | [] => false
  | c :: _ => letterI c.toNat

def nameL (l : List UInt8) : Bool := headLetter l && decide (l.length ≤ 16) && decide (wrun l = l.length) && !wordL l

/-- the value of digits, behind a value -/
def digV : Int → List UInt8 → Option Int
  | v, [] => some v
  | v, c :: r => if digitI c.toNat && decide (v ≤ (9223372036854775807 - ((c.toNat : Int) - 48)) / 10) then digV (v * 10 + ((c.toNat : Int) - 48)) r else none

def numT (t : List UInt8) : Option Int := if decide (1 < t.length) && headIs 48 t then none else digV 0 t

/-- what a string holds, and how many bytes it takes with its end -/
def quoteGo : List UInt8 → List UInt8 → Option (List UInt8 × Nat)
  | _, [] => none
  | b, c :: r =>
    if decide (100 < b.length) then none
    else if (c.toNat : Int) == 34 then some (b, 1)
    else if decide ((c.toNat : Int) < 32) || decide (126 < (c.toNat : Int)) then none
    else if (c.toNat : Int) == 92 then
      match r with
      | [] => none
      | d :: r' =>
        if (d.toNat : Int) == 110 then (quoteGo (b ++ [10]) r').map fun x => (x.1, x.2 + 2)
        else if (d.toNat : Int) == 34 || (d.toNat : Int) == 92 then (quoteGo (b ++ [d]) r').map fun x => (x.1, x.2 + 2)
        else none
    else (quoteGo (b ++ [c]) r).map fun x => (x.1, x.2 + 1)

/-! quoteGo, one byte at a time -/
theorem quoteGo_one (b : List UInt8) (c : UInt8) : quoteGo b [c] =
    if decide (100 < b.length) then none
    else if (c.toNat : Int) == 34 then some (b, 1)
    else if decide ((c.toNat : Int) < 32) || decide (126 < (c.toNat : Int)) then none
    else if (c.toNat : Int) == 92 then none
    else (quoteGo (b ++ [c]) []).map fun x => (x.1, x.2 + 1) := by rfl
theorem quoteGo_two (b : List UInt8) (c d : UInt8) (r : List UInt8) : quoteGo b (c :: d :: r) =
    if decide (100 < b.length) then none
    else if (c.toNat : Int) == 34 then some (b, 1)
    else if decide ((c.toNat : Int) < 32) || decide (126 < (c.toNat : Int)) then none
    else if (c.toNat : Int) == 92 then
        if (d.toNat : Int) == 110 then (quoteGo (b ++ [10]) r).map fun x => (x.1, x.2 + 2)
        else if (d.toNat : Int) == 34 || (d.toNat : Int) == 92 then (quoteGo (b ++ [d]) r).map fun x => (x.1, x.2 + 2)
        else none
    else (quoteGo (b ++ [c]) (d :: r)).map fun x => (x.1, x.2 + 1) := by rfl
section
variable (b : List UInt8) (c : UInt8) (r : List UInt8)
theorem quoteGo_long (h : decide (100 < b.length) = true) : quoteGo b (c :: r) = none := by
  cases r with
  | nil => rw [quoteGo_one, if_pos h]
  | cons d r => rw [quoteGo_two, if_pos h]
variable (h : decide (100 < b.length) = false)
include h
theorem quoteGo_quote (h2 : ((c.toNat : Int) == 34) = true) : quoteGo b (c :: r) = some (b, 1) := by
  cases r with
  | nil => rw [quoteGo_one, if_neg (by rw [h]; simp), if_pos h2]
  | cons d r => rw [quoteGo_two, if_neg (by rw [h]; simp), if_pos h2]
variable (h2 : ((c.toNat : Int) == 34) = false)
include h2
theorem quoteGo_bad (h3 : (decide ((c.toNat : Int) < 32) || decide (126 < (c.toNat : Int))) = true) : quoteGo b (c :: r) = none := by
  cases r with
  | nil => rw [quoteGo_one, if_neg (by rw [h]; simp), if_neg (by rw [h2]; simp), if_pos h3]
  | cons d r => rw [quoteGo_two, if_neg (by rw [h]; simp), if_neg (by rw [h2]; simp), if_pos h3]
variable (h3 : (decide ((c.toNat : Int) < 32) || decide (126 < (c.toNat : Int))) = false)
include h3
theorem quoteGo_plain (h4 : ((c.toNat : Int) == 92) = false) : quoteGo b (c :: r) = (quoteGo (b ++ [c]) r).map fun x => (x.1, x.2 + 1) := by
  cases r with
  | nil => rw [quoteGo_one, if_neg (by rw [h]; simp), if_neg (by rw [h2]; simp), if_neg (by rw [h3]; simp), if_neg (by rw [h4]; simp)]
  | cons d r => rw [quoteGo_two, if_neg (by rw [h]; simp), if_neg (by rw [h2]; simp), if_neg (by rw [h3]; simp), if_neg (by rw [h4]; simp)]
variable (h4 : ((c.toNat : Int) == 92) = true)
include h4
theorem quoteGo_esc_end : quoteGo b [c] = none := by
  rw [quoteGo_one, if_neg (by rw [h]; simp), if_neg (by rw [h2]; simp), if_neg (by rw [h3]; simp), if_pos h4]
theorem quoteGo_esc (d : UInt8) : quoteGo b (c :: d :: r) =
    if (d.toNat : Int) == 110 then (quoteGo (b ++ [10]) r).map fun x => (x.1, x.2 + 2)
    else if (d.toNat : Int) == 34 || (d.toNat : Int) == 92 then (quoteGo (b ++ [d]) r).map fun x => (x.1, x.2 + 2)
    else none := by
  rw [quoteGo_two, if_neg (by rw [h]; simp), if_neg (by rw [h2]; simp), if_neg (by rw [h3]; simp), if_pos h4]
end

def twoL (l : List UInt8) : Bool :=
  l == [58, 61] || l == [61, 61] || l == [33, 61] || l == [60, 61] || l == [62, 61] || l == [38, 38] || l == [124, 124]
def oneI (c : Int) : Bool :=
  c == 40 || c == 41 || c == 91 || c == 93 || c == 123 || c == 125 || c == 44 || c == 59 || c == 46 || c == 58 || c == 61 || c == 60 || c == 62 || c == 43 || c == 45 || c == 42 || c == 47 || c == 37 || c == 33 || c == 38
/-- the length of the sign there; 0: none -/
def signN : List UInt8 → Nat
  | [] => 0
  | c :: r => if decide (1 < (c :: r).length) && twoL ((c :: r).take 2) then 2 else if oneI c.toNat then 1 else 0

structure Tk where
  kind : Int
  len : Nat
  text : List UInt8
  n : Int

def nextL : List UInt8 → Option Tk
  | [] => none
  | c :: r =>
    if letterI c.toNat then
      if wordL ((c :: r).take (wrun (c :: r))) then some ⟨2, wrun (c :: r), (c :: r).take (wrun (c :: r)), 0⟩
      else if decide (wrun (c :: r) ≤ 16) then some ⟨1, wrun (c :: r), (c :: r).take (wrun (c :: r)), 0⟩ else none
    else if digitI c.toNat then (numT ((c :: r).take (wrun (c :: r)))).map fun v => ⟨3, wrun (c :: r), (c :: r).take (wrun (c :: r)), v⟩
    else if (c.toNat : Int) == 34 then (quoteGo [] r).map fun x => ⟨4, x.2 + 1, x.1, 0⟩
    else if signN (c :: r) = 0 then none else some ⟨5, signN (c :: r), (c :: r).take (signN (c :: r)), 0⟩

structure Tok where
  kind : Int
  text : List UInt8
  n : Int
  pos : Nat
  deriving DecidableEq

inductive LexR where
  | bad (p : Nat)
  | good (l : List Tok)
  deriving DecidableEq

def LexR.put (t : Tok) : LexR → LexR
  | .bad p => .bad p
  | .good l => .good (t :: l)
def LexR.puts : List Tok → LexR → LexR
  | _, .bad p => .bad p
  | ts, .good l => .good (ts ++ l)

/-- the tokens of what is left, from place p on; f: more than its bytes -/
def lexGo : Nat → Nat → List UInt8 → LexR
  | 0, p, _ => .bad p
  | f + 1, p, l =>
    match l.drop (blankGo false l) with
    | [] => .good [⟨0, [], 0, p + blankGo false l⟩]
    | c :: r =>
      match nextL (c :: r) with
      | none => .bad (p + blankGo false l)
      | some t => (lexGo f (p + blankGo false l + t.len) ((c :: r).drop t.len)).put ⟨t.kind, t.text, t.n, p + blankGo false l⟩

def lexL (l : List UInt8) : LexR := lexGo (l.length + 1) 0 l

end LexP
