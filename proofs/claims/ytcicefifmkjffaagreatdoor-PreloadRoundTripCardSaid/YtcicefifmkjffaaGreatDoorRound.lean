/- Plain law: what Format writes is read back by Parse. -/
import Derived.Test.YtcicefifmkjffaaGreatDoorKeep
import Derived.Test.YtcicefifmkjffaaGreatDoorParse
namespace Go.Proofs.YtcicefifmkjffaaGreatDoor
open Go Go.RowKit Hs
theorem splitAux_has (c : UInt8) : ∀ (l cur : Bs) (b : UInt8), b ∈ cur ∨ b ∈ l → b = c ∨ ∃ p ∈ splitAux c cur l, b ∈ p
  | [], cur, b, h => .inr ⟨cur, by simp [splitAux], by simpa using h⟩
  | x :: r, cur, b, h => by
    unfold splitAux
    by_cases hx : x = c
    · rw [if_pos hx]
      rcases h with h | h
      · exact .inr ⟨cur, by simp, h⟩
      · rcases List.mem_cons.1 h with rfl | h
        · exact .inl hx
        · rcases splitAux_has c r [] b (.inr h) with h | ⟨p, hp, hb⟩
          · exact .inl h
          · exact .inr ⟨p, List.mem_cons_of_mem _ hp, hb⟩
    · rw [if_neg hx]
      refine splitAux_has c r (cur ++ [x]) b ?_
      rcases h with h | h
      · exact .inl (List.mem_append_left _ h)
      · rcases List.mem_cons.1 h with rfl | h
        · exact .inl (by simp)
        · exact .inr h
theorem splitAux_cut (c : UInt8) : ∀ (l r cur : Bs), c ∉ l → splitAux c cur (l ++ c :: r) = (cur ++ l) :: split c r
  | [], r, cur, _ => by rw [List.nil_append, splitAux, if_pos rfl, List.append_nil]; rfl
  | x :: l, r, cur, h => by
    rw [List.cons_append, splitAux, if_neg (by rintro rfl; simp at h), splitAux_cut c l r _ (fun hm => h (List.mem_cons_of_mem _ hm)), List.append_assoc]; rfl
theorem find_no (c : UInt8) : ∀ l : Bs, c ∉ l → find c l = none
  | [], _ => rfl
  | x :: l, h => by rw [find, if_neg (by rintro rfl; simp at h), find_no c l (fun hm => h (List.mem_cons_of_mem _ hm))]; rfl
theorem wordsAux_run : ∀ (l r cur : Bs), (∀ b ∈ l, isSpace b = false) → wordsAux cur (l ++ r) = wordsAux (cur ++ l) r
  | [], r, cur, _ => by rw [List.nil_append, List.append_nil]
  | x :: l, r, cur, h => by
    rw [List.cons_append, wordsAux, h x (by simp), if_neg Bool.false_ne_true, wordsAux_run l r _ (fun b hb => h b (by simp [hb])), List.append_assoc]; rfl
def okB (b : UInt8) : Bool := okByte b || b == 46
theorem okB_fact (b : UInt8) : okB b = true → b.toNat < 128 ∧ b ≠ 37 ∧ b ≠ 35 ∧ b ≠ 10 ∧ b ≠ 91 ∧ isSpace b = false ∧ lowerB b = b := by
  have h := (by decide +kernel : ∀ n : Fin 256, okB (UInt8.ofNat n.1) = true → (UInt8.ofNat n.1).toNat < 128 ∧ UInt8.ofNat n.1 ≠ 37 ∧ UInt8.ofNat n.1 ≠ 35 ∧ UInt8.ofNat n.1 ≠ 10 ∧ UInt8.ofNat n.1 ≠ 91 ∧ isSpace (UInt8.ofNat n.1) = false ∧ lowerB (UInt8.ofNat n.1) = UInt8.ofNat n.1) ⟨b.toNat, b.toNat_lt⟩
  simpa only [UInt8.ofNat_toNat] using h
theorem vn_bytes {x : Bs} (h : validName x = true) : ∀ b ∈ x, okB b = true := by
  intro b hb
  unfold validName at h
  rw [Bool.and_eq_true] at h
  have ha := List.all_eq_true.1 h.2
  rcases splitAux_has 46 x [] b (.inr hb) with rfl | ⟨p, hp, hbp⟩
  · rfl
  · have := ha p hp
    unfold validLabel at this
    simp only [Bool.and_eq_true] at this
    have := List.all_eq_true.1 this.1.2 b hbp
    unfold okB; rw [this]; rfl
theorem vn_num {x : Bs} (h : validName x = true) : numeric x = false := by
  unfold validName at h; simp only [Bool.and_eq_true] at h; simpa using h.1.2
theorem vn_trim {x : Bs} (h : validName x = true) : trimDot x = x := by
  unfold trimDot Lib.trimSuffix
  rw [if_neg]
  intro hs
  obtain ⟨y, rfl⟩ := List.isSuffixOf_iff_suffix.1 hs
  unfold validName at h
  rw [Bool.and_eq_true] at h
  have := List.all_eq_true.1 h.2 [] (by unfold split; rw [show y ++ [46] = y ++ 46 :: [] from rfl, splitAux_append 46 y [] [] (by simp)]; simp)
  exact absurd this (by decide)
theorem vn_ne {x : Bs} (h : validName x = true) : x ≠ [] := by rintro rfl; exact absurd h (by decide)
theorem vn_lower {x : Bs} (h : validName x = true) : lower x = x := by
  unfold lower
  conv => rhs; rw [← List.map_id x]
  exact List.map_congr_left (fun b hb => (okB_fact b (vn_bytes h b hb)).2.2.2.2.2.2)
theorem vn_plain {x : Bs} (h : validName x = true) (hl : x.length ≤ 1024) : PlainH x where
  asc := fun b hb => ⟨(okB_fact b (vn_bytes h b hb)).1, (okB_fact b (vn_bytes h b hb)).2.1⟩
  head := by
    cases x with
    | nil => rfl
    | cons b r =>
      have := (okB_fact b (vn_bytes h b (by simp))).2.2.2.2.1
      simp only [List.isPrefixOf, Bool.and_true, beq_eq_false_iff_ne, ne_eq]
      exact fun e => this e.symm
  num := by rw [vn_trim h]; exact vn_num h
  val := by rw [vn_trim h, vn_lower h]; exact h
  len := hl
def lineE (x : Entry) : Bs := x.1 ++ (if x.2 then 32 :: flagL else [])
theorem formatE_cons (x : Entry) (r : List Entry) : formatE (x :: r) = lineE x ++ 10 :: formatE r := by
  unfold formatE lineE flagL
  simp
theorem lineE_no {x : Entry} (h : validName x.1 = true) (c : UInt8) (hc : c = 10 ∨ c = 35) : c ∉ lineE x := by
  unfold lineE
  rw [List.mem_append]
  rintro (hm | hm)
  · have := okB_fact c (vn_bytes h c hm)
    rcases hc with rfl | rfl
    · exact this.2.2.2.1 rfl
    · exact this.2.2.1 rfl
  · split at hm
    · rcases hc with rfl | rfl <;> exact absurd hm (by decide)
    · simp at hm
theorem lineE_ok {x : Entry} (h : validName x.1 = true) (hl : x.1.length ≤ 1024) : LineOK (lineE x) (some (.ok x)) := by
  have hc : cutH (lineE x) = lineE x := by unfold cutH; rw [find_no 35 _ (lineE_no h 35 (.inr rfl))]
  have hp := vn_plain h hl
  have hsp : ∀ b ∈ x.1, isSpace b = false := fun b hb => (okB_fact b (vn_bytes h b hb)).2.2.2.2.2.1
  have hr : lower (trimDot x.1) = x.1 := by rw [vn_trim h, vn_lower h]
  unfold LineOK
  rw [hc]
  obtain ⟨n, b⟩ := x
  cases b
  · refine .inr (.inl ⟨n, ?_, hp, by rw [hr]⟩)
    unfold lineE words
    rw [wordsAux_run n _ [] hsp, List.nil_append]
    simp only [Bool.false_eq_true, if_false, wordsAux]
    rw [if_neg (vn_ne h)]
  · refine .inr (.inr (.inl ⟨n, flagL, ?_, hp, by decide, by rw [hr]⟩))
    unfold lineE words
    rw [wordsAux_run n _ [] hsp, List.nil_append]
    simp only [if_true]
    rw [wordsAux, show isSpace 32 = true from rfl, if_pos rfl, if_neg (vn_ne h)]
    rfl
def recE (s : List Entry) : List LineR := s.map (fun x => some (.ok x)) ++ [none]
theorem recE_len (s : List Entry) : (recE s).length = s.length + 1 := by simp [recE]
theorem lines_cons {l : Bs} {ls : List Bs} {r : LineR} {rs : List LineR} (h : LineOK l r) (h2 : Lines ls rs) : Lines (l :: ls) (r :: rs) := by
  refine ⟨by simp [h2.1], fun k x y hx hy => ?_⟩
  cases k with
  | zero => simp at hx hy; subst hx; subst hy; exact h
  | succ k => exact h2.2 k x y (by simpa using hx) (by simpa using hy)
theorem lines_fmt : ∀ s : List Entry, (∀ x ∈ s, validName x.1 = true) → (∀ x ∈ s, x.1.length ≤ 1024) → Lines (split 10 (formatE s)) (recE s)
  | [], _, _ => lines_cons (.inl ⟨by decide, rfl⟩) ⟨rfl, fun k l r h => by simp at h⟩
  | x :: s, h, hl => by
    rw [formatE_cons]
    unfold split
    rw [splitAux_cut 10 (lineE x) (formatE s) [] (lineE_no (h x (by simp)) 10 (.inl rfl)), List.nil_append]
    exact lines_cons (lineE_ok (h x (by simp)) (hl x (by simp))) (lines_fmt s (fun y hy => h y (by simp [hy])) (fun y hy => hl y (by simp [hy])))
theorem parseR_rec : ∀ (s : List Entry) (k : Nat) (acc : List Entry), parseR (recE s) k acc = .ok (acc ++ s)
  | [], k, acc => by simp [recE, parseR]
  | x :: s, k, acc => by
    show parseR (recE s) (k + 1) (acc ++ [x]) = _
    rw [parseR_rec s, List.append_assoc]; rfl
theorem fmt_len : ∀ s : List Entry, (∀ x ∈ s, x.1.length ≤ 300) → (formatE s).length ≤ s.length * 340
  | [], _ => by simp [formatE]
  | x :: s, h => by
    have h1 := fmt_len s (fun y hy => h y (by simp [hy]))
    have h2 := h x (by simp)
    have h3 : (lineE x).length ≤ x.1.length + 19 := by unfold lineE flagL; cases x.2 <;> simp
    rw [formatE_cons, List.length_append, List.length_cons, List.length_cons]
    omega
theorem newList_again {l s : List Entry} (h : newList l = .ok s) : newList s = .ok s := by
  obtain ⟨rfl, h1, h2, h3⟩ := newList_ok h
  have hp := sortE_perm l
  have hn : ((sortE l).map (·.1)).Nodup := (hp.map _).nodup_iff.2 h2
  have hs : sortE (sortE l) = sortE l := sorted_uniq (sortE_perm _) (sortE_sorted _) (sortE_sorted _) ((((sortE_perm (sortE l)).map _).nodup_iff).2 hn)
  have hall : (sortE l).all (fun x => validName x.1) = true := List.all_eq_true.2 (fun x hx => h3 x (hp.subset hx))
  unfold newList
  rw [if_neg (by rw [hp.length_eq]; omega), if_neg (by rw [hall]; simp), if_pos hn, hs]
end Go.Proofs.YtcicefifmkjffaaGreatDoor
