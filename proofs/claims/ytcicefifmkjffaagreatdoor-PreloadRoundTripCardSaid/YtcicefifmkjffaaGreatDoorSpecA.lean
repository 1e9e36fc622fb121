/- Plain definitions for the layers ascii, ipv4, punycode, label, host, pin, preload: no program in sight. -/
namespace Hs
abbrev Bs := List UInt8

def mk (l : Bs) : ByteArray := ⟨l.toArray⟩
@[simp] theorem mk_data (l : Bs) : (mk l).data = l.toArray := rfl
@[simp] theorem mk_list (l : Bs) : (mk l).data.toList = l := rfl
theorem mk_self (s : ByteArray) : mk s.data.toList = s := rfl
theorem mk_size (l : Bs) : (mk l).size = l.length := rfl

/- ascii -/
def lowerB (b : UInt8) : UInt8 := if 65 ≤ b.toNat ∧ b.toNat ≤ 90 then b + 32 else b
def lower (l : Bs) : Bs := l.map lowerB
def isDigit (b : UInt8) : Bool := decide (48 ≤ b.toNat ∧ b.toNat ≤ 57)
def isBlank (b : UInt8) : Bool := decide (b.toNat = 32 ∨ b.toNat = 9)
def isSpace (b : UInt8) : Bool := decide (b.toNat = 32 ∨ b.toNat = 9 ∨ b.toNat = 10 ∨ b.toNat = 12 ∨ b.toNat = 13)
def digitsOk (l : Bs) : Bool := l.all isDigit && !l.isEmpty
def wordsAux (cur : Bs) : Bs → List Bs
  | [] => if cur = [] then [] else [cur]
  | b :: r => if isSpace b then (if cur = [] then wordsAux [] r else cur :: wordsAux [] r) else wordsAux (cur ++ [b]) r
def words (l : Bs) : List Bs := wordsAux [] l
def splitAux (c : UInt8) (cur : Bs) : Bs → List Bs
  | [] => [cur]
  | b :: r => if b = c then cur :: splitAux c [] r else splitAux c (cur ++ [b]) r
def split (c : UInt8) (l : Bs) : List Bs := splitAux c [] l

/- ipv4 -/
def digVal (b : UInt8) : Option Nat :=
  if 48 ≤ b.toNat ∧ b.toNat ≤ 57 then some (b.toNat - 48)
  else if 97 ≤ b.toNat ∧ b.toNat ≤ 102 then some (b.toNat - 97 + 10)
  else if 65 ≤ b.toNat ∧ b.toNat ≤ 70 then some (b.toNat - 65 + 10)
  else none
def digitsAux (base : Nat) : Nat → Bs → Option Nat
  | n, [] => some n
  | n, b :: r => match digVal b with
    | none => none
    | some d => if base ≤ d then none else digitsAux base (min (n * base + d) 1099511627776) r
def isHex (l : Bs) : Bool := [48, 120].isPrefixOf l || [48, 88].isPrefixOf l
def numberOf (l : Bs) : Option Nat :=
  if l = [] then none
  else if isHex l then digitsAux 16 0 (l.drop 2)
  else if 1 < l.length ∧ l.head? = some 48 then digitsAux 8 0 (l.drop 1)
  else digitsAux 10 0 l
def parts (l : Bs) : List Bs := let p := split 46 l; if 1 < p.length ∧ p.getLast? = some [] then p.dropLast else p
def lastPart (l : Bs) : Bs := (parts l).getLastD []
def numeric (l : Bs) : Bool := if isHex (lastPart l) then (numberOf (lastPart l)).isSome else (digitsAux 10 0 (lastPart l)).isSome && !(lastPart l).isEmpty

/- punycode -/
def point (n : Nat) : Bool := decide (n ≤ 0x10FFFF ∧ (n < 0xD800 ∨ 0xDFFF < n))
def adaptLoop : Nat → Nat → Nat → Nat × Nat
  | 0, d, k => (d, k)
  | f + 1, d, k => if 455 < d then adaptLoop f (d / 35) (k + 36) else (d, k)
def adapt (delta count : Nat) (first : Bool) : Nat :=
  let d0 := if first then delta / 700 else delta / 2
  let d1 := d0 + d0 / count
  let p := adaptLoop d1 d1 0
  p.2 + 36 * p.1 / (p.1 + 38)
def thresh (k bias : Nat) : Nat := if 36 * (k + 1) ≤ bias + 1 then 1 else min 26 (36 * (k + 1) - bias)
def pdigit (d : Nat) : UInt8 := if d < 26 then UInt8.ofNat (97 + d) else UInt8.ofNat (48 + d - 26)
def pvalue (b : UInt8) : Option Nat :=
  if 97 ≤ b.toNat ∧ b.toNat ≤ 122 then some (b.toNat - 97)
  else if 65 ≤ b.toNat ∧ b.toNat ≤ 90 then some (b.toNat - 65)
  else if 48 ≤ b.toNat ∧ b.toNat ≤ 57 then some (b.toNat - 48 + 26)
  else none
/-- The digits of q, from the digit number k on (fuel f). -/
def numDigits : Nat → Nat → Nat → Nat → Bs
  | 0, q, _, _ => [pdigit q]
  | f + 1, q, k, bias => let t := thresh k bias
    if q < t then [pdigit q] else pdigit (t + (q - t) % (36 - t)) :: numDigits f ((q - t) / (36 - t)) (k + 1) bias
def appendNumber (q bias : Nat) : Bs := numDigits q q 0 bias

/-- one pass over the points at code point n: state (out, delta, bias, done) -/
structure Enc where
  out : Bs
  delta : Nat
  bias : Nat
  done : Nat
def encStep (n basic : Nat) (s : Enc) (p : Nat) : Enc :=
  if p < n then { s with delta := s.delta + 1 }
  else if p = n then { out := s.out ++ appendNumber s.delta s.bias, delta := 0, bias := adapt s.delta (s.done + 1) (s.done == basic), done := s.done + 1 }
  else s
def encPass (n basic : Nat) (s : Enc) (l : List Nat) : Enc := l.foldl (encStep n basic) s
def least (n : Nat) (l : List Nat) : Nat := l.foldl (fun m p => if n ≤ p then min m p else m) 0x110000
def encLoop (pts : List Nat) (basic : Nat) : Nat → Nat → Enc → Enc
  | 0, _, s => s
  | f + 1, n, s => if s.done < pts.length then
      let m := least n pts
      let s1 := encPass m basic { s with delta := s.delta + (m - n) * (s.done + 1) } pts
      encLoop pts basic f (m + 1) { s1 with delta := s1.delta + 1 }
    else s
def basicOf (pts : List Nat) : Bs := (pts.filter (· < 128)).map UInt8.ofNat
/-- error numbers as in api: 0 is OK -/
def encode (pts : List Nat) : Except Nat Bs :=
  if 256 < pts.length then .error 3
  else if pts.all point then
    let b := basicOf pts
    .ok (encLoop pts b.length pts.length 128 { out := if b = [] then [] else b ++ [45], delta := 0, bias := 72, done := b.length }).out
  else .error 2
end Hs
