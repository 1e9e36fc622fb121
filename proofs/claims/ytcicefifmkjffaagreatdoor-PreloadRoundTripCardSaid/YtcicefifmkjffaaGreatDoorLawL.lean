/- Plain laws: the shelf's words on strings against this seat's own: split, last index, cut at a byte. -/
import Derived.Test.YtcicefifmkjffaaGreatDoorLawA
import Derived.Lib.SplitLaws
import Derived.Lib.LastIndexByte
import Derived.Lib.CountLaws
import Derived.Lib.IndexMore
namespace Hs
open Go

/-- the first place of a byte -/
def find (c : UInt8) : Bs → Option Nat
  | [] => none
  | b :: r => if b = c then some 0 else (find c r).map (· + 1)
theorem index_find (c : UInt8) : ∀ l : Bs, Lib.index l [c] = match find c l with | none => -1 | some i => (i : Int)
  | [] => rfl
  | b :: r => by
    have ih := index_find c r
    unfold Lib.index find
    by_cases h : b = c
    · subst h; simp
    · rw [if_neg (by simp [List.isPrefixOf]; exact fun e => h e.symm), if_neg h, ih]
      cases find c r with
      | none => rfl
      | some i => simp
theorem find_some {c : UInt8} : ∀ {l : Bs} {i : Nat}, find c l = some i → i < l.length ∧ l[i]? = some c ∧ c ∉ l.take i
  | [], i, h => by simp [find] at h
  | b :: r, i, h => by
    unfold find at h
    by_cases hb : b = c
    · rw [if_pos hb] at h; cases h; simp [hb]
    · rw [if_neg hb] at h
      obtain ⟨j, hj, rfl⟩ := Option.map_eq_some_iff.1 h
      obtain ⟨h1, h2, h3⟩ := find_some hj
      refine ⟨by simp; omega, by simpa using h2, ?_⟩
      simp only [List.take_succ_cons, List.mem_cons, not_or]
      exact ⟨fun e => hb e.symm, h3⟩
theorem find_none {c : UInt8} : ∀ {l : Bs}, find c l = none → c ∉ l
  | [], _ => by simp
  | b :: r, h => by
    unfold find at h
    by_cases hb : b = c
    · rw [if_pos hb] at h; cases h
    · rw [if_neg hb] at h
      simp at h
      simp only [List.mem_cons, not_or]
      exact ⟨fun e => hb e.symm, find_none h⟩
theorem splitAux_find (c : UInt8) : ∀ (l cur : Bs), splitAux c cur l = match find c l with | none => [cur ++ l] | some i => (cur ++ l.take i) :: split c (l.drop (i + 1))
  | [], cur => by simp [splitAux, find]
  | b :: r, cur => by
    unfold splitAux find
    by_cases h : b = c
    · rw [if_pos h, if_pos h]; simp [split]
    · rw [if_neg h, if_neg h, splitAux_find c r (cur ++ [b])]
      cases find c r <;> simp
theorem split_find (c : UInt8) (l : Bs) : split c l = match find c l with | none => [l] | some i => l.take i :: split c (l.drop (i + 1)) := by
  unfold split; rw [splitAux_find]; cases find c l <;> simp [split]
theorem splitK_eq (c : UInt8) : ∀ (n : Nat) (l : Bs), Lib.count l [c] = n → Lib.splitK [c] 0 n l = split c l
  | 0, l, h => by
    rw [split_find]
    have hi := index_find c l
    cases hf : find c l with
    | none => rfl
    | some i =>
      rw [hf] at hi
      rw [Lib.count_hit (by simp) hi] at h
      omega
  | n + 1, l, h => by
    rw [split_find]
    have hi := index_find c l
    cases hf : find c l with
    | none =>
      rw [hf] at hi
      rw [Lib.count_miss hi] at h
      omega
    | some i =>
      rw [hf] at hi
      rw [Lib.count_hit (by simp) hi] at h
      unfold Lib.splitK
      simp only [List.length_singleton] at h
      have hn : (Lib.index l [c] == -1) = false := by rw [hi, beq_eq_false_iff_ne]; simp
      rw [hn, hi]
      simp only [Int.toNat_natCast, Nat.add_zero, List.length_singleton]
      rw [splitK_eq c n _ (by omega)]
      rfl
theorem mk_data_of {b : ByteArray} {l : Bs} (h : b.data.toList = l) : b = mk l := by subst h; rfl
/-- what strings.Split gives, as values -/
theorem splitB_vals (c : UInt8) (s : ByteArray) : (Lib.splitB ⟨#[c]⟩ 0 (Lib.countB s ⟨#[c]⟩) s).map Value.string = strsV (split c s.data.toList) := by
  have h := Lib.splitB_data ⟨#[c]⟩ 0 (Lib.countB s ⟨#[c]⟩) s
  have h2 : Lib.splitK [c] 0 (Lib.countB s ⟨#[c]⟩) s.data.toList = split c s.data.toList := splitK_eq c _ _ rfl
  have h3 : (Lib.splitB ⟨#[c]⟩ 0 (Lib.countB s ⟨#[c]⟩) s).map (·.data.toList) = split c s.data.toList := h.trans h2
  rw [← h3]
  simp only [strsV, List.map_map]
  apply List.map_congr_left
  intro b _
  rfl
theorem splitB_len (c : UInt8) (s : ByteArray) : Lib.countB s ⟨#[c]⟩ + 1 = (split c s.data.toList).length := by
  have h := Lib.splitB_all ⟨#[c]⟩ (Nat.le_refl 1) 0 _ s rfl
  have h2 := congrArg List.length (splitB_vals c s)
  simp [strsV] at h2
  omega

/-- the last place of a byte -/
theorem lastIdx_some {c : UInt8} : ∀ {l : Bs} {i : Nat}, lastIdx c l = some i → l[i]? = some c ∧ c ∉ l.drop (i + 1)
  | [], i, h => by simp [lastIdx] at h
  | b :: r, i, h => by
    unfold lastIdx at h
    cases hr : lastIdx c r with
    | some k =>
      rw [hr] at h; cases h
      simpa using lastIdx_some hr
    | none =>
      rw [hr] at h
      by_cases hb : b = c
      · simp only [if_pos hb] at h; cases h
        refine ⟨by simp [hb], ?_⟩
        have : ∀ l : Bs, lastIdx c l = none → c ∉ l := by
          intro l
          induction l with
          | nil => simp
          | cons x t ih =>
            intro h
            unfold lastIdx at h
            cases ht : lastIdx c t with
            | some k => rw [ht] at h; cases h
            | none =>
              rw [ht] at h
              by_cases hx : x = c
              · simp [hx] at h
              · simp only [List.mem_cons, not_or]
                exact ⟨fun e => hx e.symm, ih ht⟩
        simpa using this r hr
      · simp [hb] at h
theorem lastIdx_none {c : UInt8} : ∀ {l : Bs}, lastIdx c l = none → c ∉ l
  | [], _ => by simp
  | x :: t, h => by
    unfold lastIdx at h
    cases ht : lastIdx c t with
    | some k => rw [ht] at h; cases h
    | none =>
      rw [ht] at h
      by_cases hx : x = c
      · simp [hx] at h
      · simp only [List.mem_cons, not_or]
        exact ⟨fun e => hx e.symm, lastIdx_none ht⟩
theorem lastIdx_uniq {c : UInt8} {l : Bs} {i : Nat} (h1 : l[i]? = some c) (h2 : c ∉ l.drop (i + 1)) : lastIdx c l = some i := by
  cases h : lastIdx c l with
  | none => exact absurd (List.mem_of_getElem? h1) (lastIdx_none h)
  | some k =>
    obtain ⟨h3, h4⟩ := lastIdx_some h
    congr 1
    rcases Nat.lt_trichotomy k i with hlt | rfl | hlt
    · refine absurd (List.mem_of_getElem? (i := i - (k + 1)) ?_) h4
      rw [List.getElem?_drop]
      rw [show k + 1 + (i - (k + 1)) = i by omega]; exact h1
    · rfl
    · refine absurd (List.mem_of_getElem? (i := k - (i + 1)) ?_) h2
      rw [List.getElem?_drop]
      rw [show i + 1 + (k - (i + 1)) = k by omega]; exact h3
def lastI (c : UInt8) (l : Bs) : Int := match lastIdx c l with | none => -1 | some i => (i : Int)
theorem lastIndexByte_eq (s : ByteArray) (c : UInt8) : Lib.lastIndexByte s c.toNat = lastI c s.data.toList := by
  have hsz : s.data.toList.length = s.size := Array.length_toList
  have hget : ∀ j, j < s.size → s.data.toList[j]? = some s.data[j]! := by
    intro j hj
    have hj' : j < s.data.size := hj
    rw [getElem!_pos s.data j hj', Array.getElem?_toList, Array.getElem?_eq_getElem hj']
  unfold lastI
  rcases Lib.lastIndexByte_spec s c.toNat with ⟨e, hn⟩ | ⟨i, hi, e, hc, hn⟩
  · rw [e]
    cases h : lastIdx c s.data.toList with
    | none => rfl
    | some k =>
      obtain ⟨h1, _⟩ := lastIdx_some h
      have hk : k < s.size := by rw [← hsz]; exact (List.getElem?_eq_some_iff.1 h1).1
      rw [hget k hk] at h1
      injection h1 with h1
      exact absurd (by rw [h1]) (hn k hk)
  · rw [e]
    have : lastIdx c s.data.toList = some i := by
      apply lastIdx_uniq
      · rw [hget i hi]
        congr 1
        exact UInt8.toNat_inj.1 (by omega)
      · intro hm
        obtain ⟨j, hj⟩ := List.mem_iff_getElem?.1 hm
        rw [List.getElem?_drop] at hj
        have hlt : i + 1 + j < s.size := by rw [← hsz]; exact (List.getElem?_eq_some_iff.1 hj).1
        rw [hget _ hlt] at hj
        injection hj with hj
        exact hn (i + 1 + j) (by omega) hlt (by rw [hj])
    rw [this]
end Hs
