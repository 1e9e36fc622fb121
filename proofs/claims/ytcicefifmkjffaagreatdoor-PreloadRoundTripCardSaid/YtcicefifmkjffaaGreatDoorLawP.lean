/- Plain laws: punycode's encoder as a loop. -/
import Derived.Test.YtcicefifmkjffaaGreatDoorSpecB
namespace Hs
theorem encPass_snoc (n basic : Nat) (s : Enc) (l : List Nat) (p : Nat) : encPass n basic s (l ++ [p]) = encStep n basic (encPass n basic s l) p := by simp [encPass]
theorem encPass_nil (n basic : Nat) (s : Enc) : encPass n basic s [] = s := rfl
theorem least_snoc (n : Nat) (l : List Nat) (p : Nat) : least n (l ++ [p]) = if n ≤ p then min (least n l) p else least n l := by simp [least]
theorem least_nil (n : Nat) : least n [] = 0x110000 := rfl
def cnt (n : Nat) (l : List Nat) : Nat := (l.filter (· < n)).length
theorem cnt_snoc (n : Nat) (l : List Nat) (p : Nat) : cnt n (l ++ [p]) = cnt n l + if p < n then 1 else 0 := by
  unfold cnt; rw [List.filter_append]; by_cases h : p < n <;> simp [h]
theorem cnt_le (n : Nat) (l : List Nat) : cnt n l ≤ l.length := List.length_filter_le _ _
def eqs (n : Nat) (l : List Nat) : Nat := (l.filter (· == n)).length
theorem eqs_snoc (n : Nat) (l : List Nat) (p : Nat) : eqs n (l ++ [p]) = eqs n l + if p = n then 1 else 0 := by
  unfold eqs; rw [List.filter_append]; by_cases h : p = n <;> simp [h]
theorem eqs_le (n : Nat) (l : List Nat) : eqs n l ≤ l.length := List.length_filter_le _ _
/-- snoc induction -/
theorem snoc_ind {α : Type} {P : List α → Prop} (h0 : P []) (h1 : ∀ l x, P l → P (l ++ [x])) : ∀ l, P l := by
  intro l
  have : ∀ n (l : List α), l.length = n → P l := by
    intro n
    induction n with
    | zero => intro l hl; rw [List.eq_nil_of_length_eq_zero hl]; exact h0
    | succ n ih =>
      intro l hl
      have hne : l ≠ [] := by intro h; simp [h] at hl
      rw [← List.dropLast_concat_getLast hne]
      exact h1 _ _ (ih _ (by simp [hl]))
  exact this _ l rfl
theorem cnt_succ (n : Nat) (l : List Nat) : cnt (n + 1) l = cnt n l + eqs n l := by
  induction l using snoc_ind with
  | h0 => rfl
  | h1 l p ih => rw [cnt_snoc, cnt_snoc, eqs_snoc, ih]; split <;> split <;> split <;> omega
/-- what a pass does: by the number of points so far -/
theorem encPass_facts (n basic : Nat) (s : Enc) : ∀ l, (encPass n basic s l).done = s.done + eqs n l ∧ (encPass n basic s l).delta ≤ s.delta + l.length ∧ (1 ≤ eqs n l → (encPass n basic s l).delta ≤ l.length) := by
  intro l
  induction l using snoc_ind with
  | h0 => simp [encPass, eqs]
  | h1 l p ih =>
    rw [encPass_snoc, eqs_snoc]
    unfold encStep
    obtain ⟨i1, i2, i3⟩ := ih
    by_cases h1 : p < n
    · rw [if_pos h1, if_neg (by omega)]
      refine ⟨by simpa using i1, by simp; omega, fun h => ?_⟩
      have := i3 (by omega); simp; omega
    · rw [if_neg h1]
      by_cases h2 : p = n
      · rw [if_pos h2, if_pos h2]
        exact ⟨by simp; omega, by simp, fun _ => by simp⟩
      · rw [if_neg h2, if_neg h2]
        refine ⟨by simpa using i1, by simp; omega, fun h => ?_⟩
        have := i3 (by omega); simp; omega
theorem least_facts (n : Nat) : ∀ l : List Nat, least n l ≤ 0x110000 ∧ (∀ p ∈ l, n ≤ p → least n l ≤ p) ∧ (least n l < 0x110000 → n ≤ least n l ∧ 1 ≤ eqs (least n l) l) := by
  intro l
  induction l using snoc_ind with
  | h0 => simp [least]
  | h1 l p ih =>
    obtain ⟨i1, i2, i3⟩ := ih
    rw [least_snoc]
    by_cases h : n ≤ p
    · rw [if_pos h]
      refine ⟨by omega, fun q hq hn => ?_, fun hlt => ?_⟩
      · rcases List.mem_append.1 hq with hq | hq
        · have := i2 q hq hn; omega
        · simp at hq; omega
      · rw [eqs_snoc]
        by_cases hp : p ≤ least n l
        · rw [Nat.min_eq_right hp] at hlt ⊢
          exact ⟨h, by rw [if_pos rfl]; omega⟩
        · rw [Nat.min_eq_left (by omega)] at hlt ⊢
          have := i3 hlt
          exact ⟨this.1, by omega⟩
    · rw [if_neg h]
      refine ⟨i1, fun q hq hn => ?_, fun hlt => ?_⟩
      · rcases List.mem_append.1 hq with hq | hq
        · exact i2 q hq hn
        · simp at hq; omega
      · have := i3 hlt; rw [eqs_snoc]; exact ⟨this.1, by omega⟩
/-- no point in [n, m) for m the least from n on -/
theorem cnt_least (n : Nat) (l : List Nat) (m : Nat) (hm : n ≤ m) (h : ∀ p ∈ l, n ≤ p → m ≤ p) : cnt m l = cnt n l := by
  unfold cnt
  congr 1
  apply List.filter_congr
  intro p hp
  have := h p hp
  by_cases h1 : n ≤ p
  · have := h p hp h1; simp; omega
  · simp; omega
theorem exists_ge {n : Nat} {l : List Nat} (h : cnt n l < l.length) : ∃ p ∈ l, n ≤ p := by
  false_or_by_contra
  rename_i hn
  have : cnt n l = l.length := by
    unfold cnt
    rw [List.filter_eq_self.2]
    intro p hp
    false_or_by_contra
    rename_i hlt
    exact hn ⟨p, hp, by simpa using hlt⟩
  omega
/-- the loop's invariant: fuel f is left -/
structure EncInv (pts : List Nat) (basic n : Nat) (s : Enc) (fin : Bs) : Prop where
  done : s.done = cnt n pts
  delta : s.delta ≤ 257
  lo : n ≤ 0x110000
  eq : ∃ f, pts.length - s.done ≤ f ∧ (encLoop pts basic f n s).out = fin
theorem EncInv.exit {pts : List Nat} {basic n : Nat} {s : Enc} {fin : Bs} (h : EncInv pts basic n s fin) (hd : ¬ s.done < pts.length) : s.out = fin := by
  obtain ⟨f, _, h2⟩ := h.eq
  cases f with
  | zero => exact h2
  | succ f => rw [encLoop, if_neg hd] at h2; exact h2
theorem EncInv.least_ {pts : List Nat} {basic n : Nat} {s : Enc} {fin : Bs} (h : EncInv pts basic n s fin) (hd : s.done < pts.length) (hp : ∀ p ∈ pts, p < 0x110000) : n ≤ least n pts ∧ least n pts < 0x110000 ∧ 1 ≤ eqs (least n pts) pts := by
  obtain ⟨p, hm, hn⟩ := exists_ge (n := n) (l := pts) (by rw [← h.done]; exact hd)
  have hf := least_facts n pts
  have h1 := hf.2.1 p hm hn
  have h2 := hp p hm
  have h3 := hf.2.2 (by omega)
  exact ⟨h3.1, by omega, h3.2⟩
theorem EncInv.next {pts : List Nat} {basic n : Nat} {s : Enc} {fin : Bs} (h : EncInv pts basic n s fin) (hd : s.done < pts.length) (hp : ∀ p ∈ pts, p < 0x110000) (hl : pts.length ≤ 256) :
    EncInv pts basic (least n pts + 1) { encPass (least n pts) basic { s with delta := s.delta + (least n pts - n) * (s.done + 1) } pts with delta := (encPass (least n pts) basic { s with delta := s.delta + (least n pts - n) * (s.done + 1) } pts).delta + 1 } fin := by
  obtain ⟨hl1, hl2, hl3⟩ := h.least_ hd hp
  have hf := encPass_facts (least n pts) basic { s with delta := s.delta + (least n pts - n) * (s.done + 1) } pts
  have hc := cnt_least n pts (least n pts) hl1 (least_facts n pts).2.1
  obtain ⟨f, h1, h2⟩ := h.eq
  obtain ⟨f', rfl⟩ : ∃ f', f = f' + 1 := ⟨f - 1, by omega⟩
  rw [encLoop, if_pos hd] at h2
  refine ⟨?_, ?_, by omega, f', ?_, h2⟩
  · show (encPass _ _ _ pts).done = _
    rw [hf.1, cnt_succ, hc, ← h.done]
  · show (encPass _ _ _ pts).delta + 1 ≤ 257
    have := hf.2.2 hl3
    omega
  · show pts.length - (encPass _ _ _ pts).done ≤ f'
    rw [hf.1]
    simp
    omega
/-- the first loop: the basic code points -/
theorem basicOf_snoc (l : List Nat) (p : Nat) : basicOf (l ++ [p]) = basicOf l ++ if p < 128 then [UInt8.ofNat p] else [] := by
  unfold basicOf; rw [List.filter_append, List.map_append]; by_cases h : p < 128 <;> simp [h]
theorem basicOf_length (l : List Nat) : (basicOf l).length = cnt 128 l := by simp [basicOf, cnt]
def encStart (pts : List Nat) : Enc := { out := if basicOf pts = [] then [] else basicOf pts ++ [45], delta := 0, bias := 72, done := (basicOf pts).length }
theorem encode_ok (pts : List Nat) (h1 : pts.length ≤ 256) (h2 : pts.all point = true) : encode pts = .ok (encLoop pts (basicOf pts).length pts.length 128 (encStart pts)).out := by
  unfold encode
  rw [if_neg (by omega), if_pos h2]
  rfl
theorem EncInv.start (pts : List Nat) : EncInv pts (basicOf pts).length 128 (encStart pts) (encLoop pts (basicOf pts).length pts.length 128 (encStart pts)).out :=
  ⟨basicOf_length pts, by simp [encStart], by omega, pts.length, by omega, rfl⟩
end Hs
