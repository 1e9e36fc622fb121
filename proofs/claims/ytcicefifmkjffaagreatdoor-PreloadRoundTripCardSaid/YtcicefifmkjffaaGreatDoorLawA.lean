/- Plain laws: words, split, lists of bytes. -/
import Derived.Test.YtcicefifmkjffaaGreatDoorSpecB
import GoSem.Core.World
namespace Hs
def strV (l : Bs) : Go.Value := .string (mk l)
def strsV (ls : List Bs) : List Go.Value := ls.map strV
theorem strsV_snoc (ls : List Bs) (l : Bs) : strsV ls ++ [strV l] = strsV (ls ++ [l]) := by simp [strsV]
theorem strsV_length (ls : List Bs) : (strsV ls).length = ls.length := by simp [strsV]

/-- the part from g to k -/
def cut (l : Bs) (g k : Nat) : Bs := (l.take k).drop g
theorem cut_snoc {l : Bs} {g k : Nat} {b : UInt8} (hb : l[k]? = some b) (hg : g ≤ k) : cut l g (k + 1) = cut l g k ++ [b] := by
  obtain ⟨hk, rfl⟩ := List.getElem?_eq_some_iff.1 hb
  unfold cut
  rw [List.take_succ_eq_append_getElem hk, List.drop_append_of_le_length (by rw [List.length_take]; omega)]
theorem cut_same (l : Bs) (k : Nat) : cut l k k = [] := by unfold cut; exact List.drop_eq_nil_of_le (by rw [List.length_take]; omega)
theorem cut_len {l : Bs} {g k : Nat} (hk : k ≤ l.length) : (cut l g k).length = k - g := by simp [cut]; omega
theorem cut_ne {l : Bs} {g k : Nat} (hk : k ≤ l.length) (hg : g < k) : cut l g k ≠ [] := by
  intro h; have := cut_len (g := g) hk; rw [h] at this; simp at this; omega
theorem cut_all {l : Bs} : cut l 0 l.length = l := by simp [cut]
theorem drop_at {l : Bs} {k : Nat} {b : UInt8} (hb : l[k]? = some b) : l.drop k = b :: l.drop (k + 1) := by
  obtain ⟨hk, rfl⟩ := List.getElem?_eq_some_iff.1 hb
  exact List.drop_eq_getElem_cons hk
theorem drop_end {l : Bs} {k : Nat} (hk : l.length ≤ k) : l.drop k = [] := List.drop_eq_nil_of_le hk

def WR (l : Bs) (k g : Nat) (ys : List Bs) : Prop := (k ≤ l.length ∧ words l = ys ++ wordsAux (cut l g k) (l.drop k)) ∨ (k = l.length + 1 ∧ words l = ys)
theorem WR.start (l : Bs) : WR l 0 0 [] := .inl ⟨Nat.zero_le _, by simp [words, cut]⟩
theorem WR.keep {l : Bs} {k g : Nat} {ys : List Bs} {b : UInt8} (h : WR l k g ys) (hb : l[k]? = some b) (hs : isSpace b = false) (hg : g ≤ k) : WR l (k + 1) g ys := by
  have hk := (List.getElem?_eq_some_iff.1 hb).1
  rcases h with ⟨_, h⟩ | ⟨h, _⟩
  · refine .inl ⟨hk, ?_⟩
    rw [h, drop_at hb, wordsAux, hs, cut_snoc hb hg]
    simp
  · omega
theorem WR.word {l : Bs} {k g : Nat} {ys : List Bs} {b : UInt8} (h : WR l k g ys) (hb : l[k]? = some b) (hs : isSpace b = true) (hg : g < k) : WR l (k + 1) (k + 1) (ys ++ [cut l g k]) := by
  have hk := (List.getElem?_eq_some_iff.1 hb).1
  rcases h with ⟨_, h⟩ | ⟨h, _⟩
  · refine .inl ⟨hk, ?_⟩
    rw [h, drop_at hb, wordsAux, hs, if_pos rfl, if_neg (cut_ne (by omega) hg), cut_same]
    simp
  · omega
theorem WR.skip {l : Bs} {k g : Nat} {ys : List Bs} {b : UInt8} (h : WR l k g ys) (hb : l[k]? = some b) (hs : isSpace b = true) (hg : g = k) : WR l (k + 1) (k + 1) ys := by
  have hk := (List.getElem?_eq_some_iff.1 hb).1
  rcases h with ⟨_, h⟩ | ⟨h, _⟩
  · refine .inl ⟨hk, ?_⟩
    subst hg
    rw [h, drop_at hb, wordsAux, hs, if_pos rfl, cut_same, if_pos rfl, cut_same]
  · omega
theorem WR.lastword {l : Bs} {k g : Nat} {ys : List Bs} (h : WR l k g ys) (hk : k = l.length) (hg : g < k) : WR l (k + 1) (k + 1) (ys ++ [cut l g k]) := by
  rcases h with ⟨_, h⟩ | ⟨h, _⟩
  · refine .inr ⟨by omega, ?_⟩
    rw [h, drop_end (by omega), wordsAux, if_neg (cut_ne (by omega) hg)]
  · omega
theorem WR.last {l : Bs} {k g : Nat} {ys : List Bs} (h : WR l k g ys) (hk : k = l.length) (hg : g = k) : WR l (k + 1) (k + 1) ys := by
  rcases h with ⟨_, h⟩ | ⟨h, _⟩
  · refine .inr ⟨by omega, ?_⟩
    subst hg
    rw [h, drop_end (by omega), cut_same, wordsAux, if_pos rfl, List.append_nil]
  · omega
theorem WR.done {l : Bs} {k g : Nat} {ys : List Bs} (h : WR l k g ys) (hk : l.length < k) : words l = ys := by
  rcases h with ⟨h, _⟩ | ⟨_, h⟩
  · omega
  · exact h

/-- Split at a byte, as a loop over the index (i ≤ len). -/
def SR (c : UInt8) (l : Bs) (k g : Nat) (ys : List Bs) : Prop := (k ≤ l.length ∧ split c l = ys ++ splitAux c (cut l g k) (l.drop k)) ∨ (k = l.length + 1 ∧ split c l = ys)
theorem SR.start (c : UInt8) (l : Bs) : SR c l 0 0 [] := .inl ⟨Nat.zero_le _, by simp [split, cut]⟩
theorem SR.keep {c : UInt8} {l : Bs} {k g : Nat} {ys : List Bs} {b : UInt8} (h : SR c l k g ys) (hb : l[k]? = some b) (hs : b ≠ c) (hg : g ≤ k) : SR c l (k + 1) g ys := by
  have hk := (List.getElem?_eq_some_iff.1 hb).1
  rcases h with ⟨_, h⟩ | ⟨h, _⟩
  · refine .inl ⟨hk, ?_⟩
    rw [h, drop_at hb, splitAux, if_neg hs, cut_snoc hb hg]
  · omega
theorem SR.part {c : UInt8} {l : Bs} {k g : Nat} {ys : List Bs} {b : UInt8} (h : SR c l k g ys) (hb : l[k]? = some b) (hs : b = c) : SR c l (k + 1) (k + 1) (ys ++ [cut l g k]) := by
  have hk := (List.getElem?_eq_some_iff.1 hb).1
  rcases h with ⟨_, h⟩ | ⟨h, _⟩
  · refine .inl ⟨hk, ?_⟩
    rw [h, drop_at hb, splitAux, if_pos hs, cut_same]
    simp
  · omega
theorem SR.last {c : UInt8} {l : Bs} {k g : Nat} {ys : List Bs} (h : SR c l k g ys) (hk : k = l.length) : SR c l (k + 1) (k + 1) (ys ++ [cut l g k]) := by
  rcases h with ⟨_, h⟩ | ⟨h, _⟩
  · refine .inr ⟨by omega, ?_⟩
    rw [h, drop_end (by omega), splitAux]
  · omega
theorem SR.done {c : UInt8} {l : Bs} {k g : Nat} {ys : List Bs} (h : SR c l k g ys) (hk : l.length < k) : split c l = ys := by
  rcases h with ⟨h, _⟩ | ⟨_, h⟩
  · omega
  · exact h
theorem splitAux_length (c : UInt8) : ∀ (l cur : Bs), 1 ≤ (splitAux c cur l).length ∧ (splitAux c cur l).length ≤ l.length + 1
  | [], _ => by simp [splitAux]
  | b :: r, cur => by
    unfold splitAux
    split
    · have := splitAux_length c r []; simp; omega
    · have := splitAux_length c r (cur ++ [b]); simp; omega
theorem split_length (c : UInt8) (l : Bs) : 1 ≤ (split c l).length ∧ (split c l).length ≤ l.length + 1 := splitAux_length c l []
theorem splitAux_le (c : UInt8) : ∀ (l cur : Bs), ∀ p ∈ splitAux c cur l, p.length ≤ cur.length + l.length
  | [], cur => by simp [splitAux]
  | b :: r, cur => by
    unfold splitAux
    split
    · intro p hp
      rcases List.mem_cons.1 hp with rfl | hp
      · simp
      · have := splitAux_le c r [] p hp; simp at this ⊢; omega
    · intro p hp
      have := splitAux_le c r (cur ++ [b]) p hp; simp at this ⊢; omega
theorem split_le (c : UInt8) (l : Bs) : ∀ p ∈ split c l, p.length ≤ l.length := fun p hp => by have := splitAux_le c l [] p hp; simpa using this
theorem wordsAux_le : ∀ (l cur : Bs), (∀ p ∈ wordsAux cur l, p.length ≤ cur.length + l.length) ∧ (wordsAux cur l).length ≤ l.length + 1
  | [], cur => by unfold wordsAux; split <;> simp
  | b :: r, cur => by
    unfold wordsAux
    have h1 := wordsAux_le r []
    have h2 := wordsAux_le r (cur ++ [b])
    split
    · split
      · refine ⟨fun p hp => ?_, by simp; omega⟩
        have := h1.1 p hp; simp at this ⊢; omega
      · refine ⟨fun p hp => ?_, by simp; omega⟩
        rcases List.mem_cons.1 hp with rfl | hp
        · simp
        · have := h1.1 p hp; simp at this ⊢; omega
    · refine ⟨fun p hp => ?_, by simp; omega⟩
      have := h2.1 p hp; simp at this ⊢; omega
theorem words_le (l : Bs) : (∀ p ∈ words l, p.length ≤ l.length) ∧ (words l).length ≤ l.length + 1 := ⟨fun p hp => by have := (wordsAux_le l []).1 p hp; simpa using this, (wordsAux_le l []).2⟩
end Hs
