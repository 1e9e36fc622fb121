import Derived.Test.YtcicefifmkjffaaGreatDoorSpecA
namespace Hs
/- punycode, decoding -/
/-- a number: the digits from number k on; i so far, the weight w -/
def decNum (bias : Nat) : Bs → Nat → Nat → Nat → Except Nat (Bs × Nat)
  | [], _, _, _ => .error 4
  | b :: r, i, w, k => match pvalue b with
    | none => .error 4
    | some x =>
      if 1099511627776 < i + x * w then .error 19
      else if x < thresh k bias then .ok (r, i + x * w)
      else if 1099511627776 < w * (36 - thresh k bias) then .error 19
      else decNum bias r (i + x * w) (w * (36 - thresh k bias)) (k + 1)
structure Dec where
  rest : Bs
  pts : List Nat
  n : Nat
  i : Nat
  bias : Nat
  started : Bool
def insertAt (l : List Nat) (i : Nat) (x : Nat) : List Nat := l.take i ++ x :: l.drop i
def decStep (d : Dec) : Except Nat Dec :=
  match decNum d.bias d.rest d.i 1 0 with
  | .error e => .error e
  | .ok (r, i) =>
    let count := d.pts.length + 1
    let n := d.n + i / count
    if point n = false then .error 2
    else if 256 < count then .error 3
    else .ok { rest := r, pts := insertAt d.pts (i % count) n, n := n, i := i % count + 1, bias := adapt (i - d.i) count (!d.started), started := true }
def decLoop : Nat → Dec → Except Nat (List Nat)
  | 0, d => .ok d.pts
  | f + 1, d => if d.rest = [] then .ok d.pts else match decStep d with
    | .error e => .error e
    | .ok d' => decLoop f d'
/-- the place of the last '-', if it is not the first byte -/
def lastIdx (c : UInt8) : Bs → Option Nat
  | [] => none
  | b :: r => match lastIdx c r with
    | some k => some (k + 1)
    | none => if b = c then some 0 else none
def decode (s : Bs) : Except Nat (List Nat) :=
  if 1024 < s.length then .error 3
  else if s.any (fun b => decide (128 ≤ b.toNat)) then .error 4
  else
    let p : Bs × Bs := match lastIdx 45 s with
      | some (k + 1) => (s.take (k + 1), s.drop (k + 2))
      | _ => ([], s)
    if 256 < p.1.length then .error 3
    else decLoop p.2.length { rest := p.2, pts := p.1.map (·.toNat), n := 128, i := 0, bias := 72, started := false }

/- label -/
def okByte (b : UInt8) : Bool := decide ((97 ≤ b.toNat ∧ b.toNat ≤ 122) ∨ (48 ≤ b.toNat ∧ b.toNat ≤ 57) ∨ b.toNat = 45 ∨ b.toNat = 95)
def proper (s : Bs) : Bool := match decode s with
  | .error _ => false
  | .ok pts => pts.all (fun p => !decide (65 ≤ p ∧ p ≤ 90)) && pts.any (fun p => decide (128 ≤ p)) && (match encode pts with | .ok t => t == s | .error _ => false)
def validLabel (s : Bs) : Bool :=
  decide (1 ≤ s.length ∧ s.length ≤ 63) && !(s.head? == some 45) && !(s.getLast? == some 45) && s.all okByte && (!([120, 110, 45, 45].isPrefixOf s) || proper (s.drop 4))

/- host -/
def validName (s : Bs) : Bool := decide (s.length ≤ 253) && !numeric s && (split 46 s).all validLabel

/- pin -/
def bless (a b : Bs) : Bool := match a, b with
  | _, [] => false
  | [], _ :: _ => true
  | x :: r, y :: t => if x.toNat < y.toNat then true else if y.toNat < x.toNat then false else bless r t
def cmpB (a b : Bs) : Int := if bless a b then -1 else if a = b then 0 else 1
def cmpL : List Bs → List Bs → Int
  | [], [] => 0
  | [], _ :: _ => -1
  | _ :: _, [] => 1
  | x :: r, y :: t => if cmpB x y = 0 then cmpL r t else cmpB x y
def compare (a b : Bs) : Int := cmpL (split 46 a).reverse (split 46 b).reverse

/- preload -/
abbrev Entry := Bs × Bool
def ins (x : Entry) : List Entry → List Entry
  | [] => [x]
  | y :: r => if compare y.1 x.1 < 0 then y :: ins x r else x :: y :: r
def sortE (l : List Entry) : List Entry := l.foldl (fun acc x => ins x acc) []
def newList (l : List Entry) : Except Nat (List Entry) :=
  if 1000 < l.length then .error 3
  else if l.all (fun x => validName x.1) = false then .error 14
  else if (l.map (·.1)).Nodup then .ok (sortE l) else .error 17
def formatE (l : List Entry) : Bs := (l.map fun x => x.1 ++ (if x.2 then [32, 105, 110, 99, 108, 117, 100, 101, 45, 115, 117, 98, 100, 111, 109, 97, 105, 110, 115] else []) ++ [10]).flatten
end Hs
