/- Contracts: punycode (the program's). -/
import Derived.Test.YtcicefifmkjffaaGreatDoorAscii
import Derived.RangeFuncBox
namespace Go.Proofs.YtcicefifmkjffaaGreatDoor
open Go Go.RowKit Hs

def pvalI (b : UInt8) : Int := match pvalue b with | some v => (v : Int) | none => -1
theorem pvalI_eq (b : UInt8) : pvalI b = if 97 ≤ b.toNat ∧ b.toNat ≤ 122 then (b.toNat : Int) - 97 else if 65 ≤ b.toNat ∧ b.toNat ≤ 90 then (b.toNat : Int) - 65 else if 48 ≤ b.toNat ∧ b.toNat ≤ 57 then (b.toNat : Int) - 48 + 26 else -1 := by
  unfold pvalI pvalue
  by_cases h1 : 97 ≤ b.toNat ∧ b.toNat ≤ 122
  · simp only [if_pos h1]; omega
  · simp only [if_neg h1]
    by_cases h2 : 65 ≤ b.toNat ∧ b.toNat ≤ 90
    · simp only [if_pos h2]; omega
    · simp only [if_neg h2]
      by_cases h3 : 48 ≤ b.toNat ∧ b.toNat ≤ 57
      · simp only [if_pos h3]; omega
      · simp only [if_neg h3]
set_option maxRecDepth 100000 in
theorem point_c (n : Nat) (w : World) : Calls Tryz.prog 118 #[.int .i64 n] w fun e w' => e = .returned (.bool (point n)) ∧ w = w' := by
  go_enter Tryz.func118, Tryz.ntmps118
  go_wp2
  all_goals go_ret
  all_goals exact ⟨ret_bool (by rw [Bool.eq_iff_iff]; simp [point]; try omega), rfl⟩
theorem pdigit_c (n : Int) (h0 : 0 ≤ n) (hn : n ≤ 35) (w : World) : Calls Tryz.prog 138 #[.int .i64 n] w fun e w' => e = .returned (.int .u8 (pdigit n.toNat).toNat) ∧ w = w' := by
  go_enter Tryz.func138, Tryz.ntmps138
  go_wp2
  all_goals go_ret
  · refine ⟨ret_int ?_, rfl⟩
    unfold pdigit
    rw [if_pos (by omega), UInt8.toNat_ofNat']
    omega
  · refine ⟨ret_int ?_, rfl⟩
    unfold pdigit
    rw [if_neg (by omega), UInt8.toNat_ofNat']
    omega
theorem pvalue_c (b : UInt8) (w : World) : Calls Tryz.prog 143 #[.int .u8 b.toNat] w fun e w' => e = .returned (.int .i64 (pvalI b)) ∧ w = w' := by
  have hv := pvalI_eq b
  have HV := Lib.hid hv
  clear hv
  go_enter Tryz.func143, Tryz.ntmps143
  go_wp2
  all_goals go_ret
  all_goals refine ⟨ret_int ?_, rfl⟩
  all_goals (rw [HV.out]; (repeat split) <;> omega)
/- adapt -/
theorem adaptLoop_done : ∀ (f d k : Nat), ¬ 455 < d → adaptLoop f d k = (d, k)
  | 0, _, _, _ => rfl
  | f + 1, d, k, h => by unfold adaptLoop; rw [if_neg h]
theorem adaptLoop_step {f d k : Nat} (hf : d ≤ f) (h : 455 < d) : ∃ f', d / 35 ≤ f' ∧ adaptLoop f d k = adaptLoop f' (d / 35) (k + 36) := by
  obtain ⟨f', rfl⟩ : ∃ f', f = f' + 1 := ⟨f - 1, by omega⟩
  refine ⟨f', by omega, ?_⟩
  show (if 455 < d then adaptLoop f' (d / 35) (k + 36) else (d, k)) = _
  rw [if_pos h]
def d1Of (delta count : Nat) (first : Bool) : Nat := (if first then delta / 700 else delta / 2) + (if first then delta / 700 else delta / 2) / count
theorem adapt_eq (delta count : Nat) (first : Bool) : adapt delta count first = (adaptLoop (d1Of delta count first) (d1Of delta count first) 0).2 + 36 * (adaptLoop (d1Of delta count first) (d1Of delta count first) 0).1 / ((adaptLoop (d1Of delta count first) (d1Of delta count first) 0).1 + 38) := rfl
theorem int_div_le (a : Int) (c : Nat) (h0 : 0 ≤ a) : a / (c : Int) ≤ a ∧ 0 ≤ a / (c : Int) :=
  ⟨Int.ediv_le_self _ h0, Int.ediv_nonneg h0 (by omega)⟩
theorem d1Of_le (delta count : Nat) (first : Bool) : d1Of delta count first ≤ 2 * delta := by
  unfold d1Of
  have h1 := Nat.div_le_self (delta / 700) count
  have h2 := Nat.div_le_self (delta / 2) count
  cases first <;> simp <;> omega
def adaptR (D k d : Nat) : Prop := ∃ f, d ≤ f ∧ k + d ≤ D ∧ adaptLoop f d k = adaptLoop D D 0
theorem adaptR.start (D : Nat) : adaptR D 0 D := ⟨D, Nat.le_refl _, by omega, rfl⟩
theorem adaptR.step {D k d : Nat} (h : adaptR D k d) (hd : 455 < d) : adaptR D (k + 36) (d / 35) := by
  obtain ⟨f, h1, h2, h3⟩ := h
  obtain ⟨f', h4, h5⟩ := adaptLoop_step h1 hd
  exact ⟨f', h4, by omega, h5 ▸ h3⟩
theorem adaptR.done {delta count k d : Nat} {first : Bool} (h : adaptR (d1Of delta count first) k d) (hd : ¬ 455 < d) : adapt delta count first = k + 36 * d / (d + 38) := by
  obtain ⟨f, _, _, h3⟩ := h
  rw [adapt_eq, ← h3, adaptLoop_done _ _ _ hd]
theorem adaptR.le {D k d : Nat} (h : adaptR D k d) : k ≤ D ∧ d ≤ D := by obtain ⟨f, h1, h2, h3⟩ := h; omega
set_option maxRecDepth 100000 in
set_option maxHeartbeats 400000 in
theorem adapt_false (delta count : Nat) (w : World) (hd : delta ≤ 1099511627776) (hc : 1 ≤ count) (hc2 : count ≤ 65536) : Calls Tryz.prog 120 #[.int .i64 delta, .int .i64 count, .bool false] w fun e w' => e = .returned (.int .i64 (adapt delta count false)) ∧ w = w' := by
  have hD := d1Of_le delta count false
  have q1 := int_div_le ((delta : Int) / 2) count (by omega)
  go_enter Tryz.func120, Tryz.ntmps120
  go_wp2
  go_loop [0, 7] (fun d k => ∃ dn kn : Nat, d = .int .i64 dn ∧ k = .int .i64 kn ∧ adaptR (d1Of delta count false) kn dn) (fun d _ => (intOf d).toNat)
  case atStart => exact ⟨d1Of delta count false, 0, by simp [d1Of], rfl, adaptR.start _⟩
  case round =>
    obtain ⟨d, k, rfl, rfl, hR⟩ := hrel
    have hle := hR.le
    by_cases hlt : 455 < d
    · have hs := hR.step hlt
      go_wp2
      go_round
      case rel => exact ⟨d / 35, k + 36, by go_num, by go_num, hs⟩
      case measure =>
        show (intOf (.int .i64 ((d : Int) / 35))).toNat < (intOf (.int .i64 (d : Int))).toNat
        simp only [intOf]; omega
    · have q3 : 36 * (d : Int) / ((d : Int) + 38) ≤ 36 * (d : Int) ∧ 0 ≤ 36 * (d : Int) / ((d : Int) + 38) := ⟨Int.ediv_le_self _ (by omega), Int.ediv_nonneg (by omega) (by omega)⟩
      have hfin := hR.done hlt
      have HF := Lib.hid hfin
      clear hfin
      go_wp2
      go_ret
      exact ⟨ret_int (by rw [HF.out]; simp), rfl⟩
set_option maxRecDepth 100000 in
set_option maxHeartbeats 400000 in
theorem adapt_true (delta count : Nat) (w : World) (hd : delta ≤ 1099511627776) (hc : 1 ≤ count) (hc2 : count ≤ 65536) : Calls Tryz.prog 120 #[.int .i64 delta, .int .i64 count, .bool true] w fun e w' => e = .returned (.int .i64 (adapt delta count true)) ∧ w = w' := by
  have hD := d1Of_le delta count true
  have q1 := int_div_le ((delta : Int) / 700) count (by omega)
  go_enter Tryz.func120, Tryz.ntmps120
  go_wp2
  go_loop [0, 7] (fun d k => ∃ dn kn : Nat, d = .int .i64 dn ∧ k = .int .i64 kn ∧ adaptR (d1Of delta count true) kn dn) (fun d _ => (intOf d).toNat)
  case atStart => exact ⟨d1Of delta count true, 0, by simp [d1Of], rfl, adaptR.start _⟩
  case round =>
    obtain ⟨d, k, rfl, rfl, hR⟩ := hrel
    have hle := hR.le
    by_cases hlt : 455 < d
    · have hs := hR.step hlt
      go_wp2
      go_round
      case rel => exact ⟨d / 35, k + 36, by go_num, by go_num, hs⟩
      case measure =>
        show (intOf (.int .i64 ((d : Int) / 35))).toNat < (intOf (.int .i64 (d : Int))).toNat
        simp only [intOf]; omega
    · have q3 : 36 * (d : Int) / ((d : Int) + 38) ≤ 36 * (d : Int) ∧ 0 ≤ 36 * (d : Int) / ((d : Int) + 38) := ⟨Int.ediv_le_self _ (by omega), Int.ediv_nonneg (by omega) (by omega)⟩
      have hfin := hR.done hlt
      have HF := Lib.hid hfin
      clear hfin
      go_wp2
      go_ret
      exact ⟨ret_int (by rw [HF.out]; simp), rfl⟩
theorem adapt_c (delta count : Nat) (first : Bool) (w : World) (hd : delta ≤ 1099511627776) (hc : 1 ≤ count) (hc2 : count ≤ 65536) : Calls Tryz.prog 120 #[.int .i64 delta, .int .i64 count, .bool first] w fun e w' => e = .returned (.int .i64 (adapt delta count first)) ∧ w = w' := by
  cases first
  · exact adapt_false delta count w hd hc hc2
  · exact adapt_true delta count w hd hc hc2
/- thresholds -/
theorem thresholds_c (bias : Int) (w : World) : Calls Tryz.prog 137 #[.int .i64 bias] w fun e w' => e = .returned (.func (.func 146) #[] #[.pointer (some ⟨w.heap.size + 1, 0, none⟩), .pointer (some ⟨w.heap.size, 0, none⟩)]) ∧ w' = (w.alloc (.cells #[.int .i64 bias] 3)).alloc (.cells #[.int .i64 0] 3) := by
  have hmf : ∀ (fn : Fn) (first cap : Array Value) (w : World), (Instr.makeFunc fn first cap).run Tryz.prog w = .ok (.func fn first cap) w := fun _ _ _ _ => rfl
  go_enter Tryz.func137, Tryz.ntmps137
  go_wp2
  go_ret
  exact ⟨rfl, rfl⟩
theorem thresh_int (k bias : Nat) : (thresh k bias : Int) = min (max (36 * (k : Int) + 36 - bias) 1) 26 := by
  unfold thresh
  split <;> omega
theorem thresh_le (k bias : Nat) : 1 ≤ thresh k bias ∧ thresh k bias ≤ 26 := by
  unfold thresh
  split <;> omega
set_option maxRecDepth 100000 in
theorem threshold_c (k bias : Nat) (c : Int) (hc : Hid (c = 36 * (k : Int))) (h0 : 0 ≤ c) (h1 : c ≤ 80000000000) (a b : Nat) (w : World) (hb : bias ≤ 4398046511104) (ha : CB w a 3 #[.int .i64 c]) (hab : a ≠ b) (hbb : CB w b 3 #[.int .i64 bias]) :
    Calls Tryz.prog 146 #[.pointer (some ⟨a, 0, none⟩), .pointer (some ⟨b, 0, none⟩)] w fun e w' => e = .returned (.int .i64 (thresh k bias)) ∧ CB w' a 3 #[.int .i64 (c + 36)] ∧ w.grownBy w' (some a) := by
  have ha1 : w.cell? ⟨a, 0, none⟩ = some (.int .i64 c) := ha.cell 0
  have ha2 := ha.frozen 0
  have hb1 : w.cell? ⟨b, 0, none⟩ = some (.int .i64 bias) := hbb.cell 0
  have hset : CB (w.setCell ⟨a, 0, none⟩ (.int .i64 (c + 36))) a 3 #[.int .i64 (c + 36)] := ha.set 0 _
  have hgr : w.grownBy (w.setCell ⟨a, 0, none⟩ (.int .i64 (c + 36))) (some a) := grownBy_setCell' _ _ _
  have ht := thresh_int k bias
  have HT := Lib.hid ht
  clear ht
  go_enter Tryz.func146, Tryz.ntmps146
  go_wp2
  all_goals go_ret
  all_goals exact ⟨ret_int (by have := HT.out; have := hc.out; omega), hset, hgr⟩
/-- The digits, from digit number k on. -/
theorem numDigits_done {f q k bias : Nat} (h : q < thresh k bias) : numDigits f q k bias = [pdigit q] := by
  cases f with
  | zero => rfl
  | succ f => show (if q < thresh k bias then _ else _) = _; rw [if_pos h]
theorem numDigits_step {f q k bias : Nat} (hf : q ≤ f) (h : ¬ q < thresh k bias) :
    ∃ f', (q - thresh k bias) / (36 - thresh k bias) ≤ f' ∧ numDigits f q k bias = pdigit (thresh k bias + (q - thresh k bias) % (36 - thresh k bias)) :: numDigits f' ((q - thresh k bias) / (36 - thresh k bias)) (k + 1) bias := by
  have ht := thresh_le k bias
  obtain ⟨f', rfl⟩ : ∃ f', f = f' + 1 := ⟨f - 1, by omega⟩
  refine ⟨f', ?_, ?_⟩
  · have := Nat.div_le_self (q - thresh k bias) (36 - thresh k bias); omega
  · show (if q < thresh k bias then _ else _) = _
    rw [if_neg h]
def numR (q0 bias q k : Nat) (done : Bs) : Prop := ∃ f, q ≤ f ∧ (q + k ≤ q0 ∧ done.length = k) ∧ appendNumber q0 bias = done ++ numDigits f q k bias
theorem numR.start (q bias : Nat) : numR q bias q 0 [] := ⟨q, Nat.le_refl _, ⟨by omega, rfl⟩, rfl⟩
theorem numR.done {q0 bias q k : Nat} {d : Bs} (h : numR q0 bias q k d) (hq : q < thresh k bias) : appendNumber q0 bias = d ++ [pdigit q] := by
  obtain ⟨f, _, _, h3⟩ := h
  rw [h3, numDigits_done hq]
theorem numR.step {q0 bias q k : Nat} {d : Bs} (h : numR q0 bias q k d) (hq : ¬ q < thresh k bias) :
    numR q0 bias ((q - thresh k bias) / (36 - thresh k bias)) (k + 1) (d ++ [pdigit (thresh k bias + (q - thresh k bias) % (36 - thresh k bias))]) := by
  obtain ⟨f, h1, h2, h3⟩ := h
  obtain ⟨f', h4, h5⟩ := numDigits_step h1 hq
  have ht := thresh_le k bias
  refine ⟨f', h4, ⟨?_, by simp [h2.2]⟩, by rw [h3, h5]; simp⟩
  have := Nat.div_le_self (q - thresh k bias) (36 - thresh k bias)
  omega
theorem numR.le {q0 bias q k : Nat} {d : Bs} (h : numR q0 bias q k d) : q + k ≤ q0 ∧ d.length = k := h.choose_spec.2.1
theorem pdigit_arg (k bias q : Nat) : thresh k bias + (q - thresh k bias) % (36 - thresh k bias) ≤ 35 := by
  have ht := thresh_le k bias
  have := Nat.mod_lt (q - thresh k bias) (show 0 < 36 - thresh k bias by omega)
  omega
theorem cast_div {q t : Nat} (h : t ≤ q) (h2 : t ≤ 36) : (((q - t) / (36 - t) : Nat) : Int) = ((q : Int) - t) / (36 - t) := by
  rw [Int.natCast_ediv, Int.natCast_sub h, Int.natCast_sub h2]; rfl
theorem cast_mod {q t : Nat} (h : t ≤ q) (h2 : t ≤ 36) : t + (q - t) % (36 - t) = ((t : Int) + ((q : Int) - t) % (36 - t)).toNat := by
  have : (((q - t) % (36 - t) : Nat) : Int) = ((q : Int) - t) % (36 - t) := by
    rw [Int.natCast_emod, Int.natCast_sub h, Int.natCast_sub h2]; rfl
  omega
theorem numDigits_length : ∀ (f q k bias : Nat), (numDigits f q k bias).length ≤ f + 1
  | 0, _, _, _ => by simp [numDigits]
  | f + 1, q, k, bias => by
    show (if q < thresh k bias then [pdigit q] else _ :: numDigits f _ (k + 1) bias).length ≤ _
    split
    · simp
    · have := numDigits_length f ((q - thresh k bias) / (36 - thresh k bias)) (k + 1) bias
      simp; omega
theorem appendNumber_length (q bias : Nat) : (appendNumber q bias).length ≤ q + 1 := numDigits_length q q 0 bias
theorem adapt_le (delta count : Nat) (first : Bool) : adapt delta count first ≤ 2 * delta + 36 := by
  have key : ∀ (n D k d : Nat), d = n → adaptR D k d → ∃ k' d', adaptR D k' d' ∧ ¬ 455 < d' := by
    intro n
    induction n using Nat.strongRecOn with
    | ind n ih =>
      intro D k d hd hR
      by_cases h : 455 < d
      · exact ih (d / 35) (by omega) D (k + 36) (d / 35) rfl (hR.step h)
      · exact ⟨k, d, hR, h⟩
  obtain ⟨k, d, hR, hd⟩ := key _ _ 0 _ rfl (adaptR.start (d1Of delta count first))
  rw [hR.done hd]
  have h1 := hR.le
  have h2 := d1Of_le delta count first
  have h3 : 36 * d / (d + 38) ≤ 36 := by
    apply Nat.le_of_lt_succ
    rw [Nat.div_lt_iff_lt_mul (by omega)]
    omega
  omega
set_option maxRecDepth 100000 in
set_option maxHeartbeats 1000000 in
theorem appendNumber_c (W : World) (A : Option Addr) (l : Bs) (n c q bias : Nat) (w : World) (hnl : Hid (n = l.length)) (hG0 : Gr W w) (hown : OwnR w W.heap.size 5 1 A n c (bytesV l)) (hl : n ≤ 1000000000000) (hq : q ≤ 1000000000) (hb : bias ≤ 4398046511104) :
    Calls Tryz.prog 119 #[.slice A n c, .int .i64 q, .int .i64 bias] w fun e w' => ∃ A' n' c', e = .returned (.slice A' n' c') ∧ Hid (n' = (l ++ appendNumber q bias).length) ∧ OwnR w' W.heap.size 5 1 A' n' c' (bytesV (l ++ appendNumber q bias)) ∧ Gr W w' := by
  go_enter Tryz.func119, Tryz.ntmps119
  go_wp2_with (go_at_call 137; refine (thresholds_c _ _).mono ?_; rintro e w' ⟨rfl, rfl⟩)
  have hcb1 : CB ((w.alloc (.cells #[.int .i64 bias] 3)).alloc (.cells #[.int .i64 0] 3)) w.heap.size 3 #[.int .i64 bias] := (CB.new _ _ _).alloc _
  have hcb2 : CB ((w.alloc (.cells #[.int .i64 bias] 3)).alloc (.cells #[.int .i64 0] 3)) (w.heap.size + 1) 3 #[.int .i64 0] := by have := CB.new (w.alloc (.cells #[.int .i64 bias] 3)) 3 #[.int .i64 0]; rwa [World.size_alloc] at this
  go_loopw [0, 1] (fun v x wr => ∃ (qn k : Nat) (cc : Int) (done : Bs) (A' : Option Addr) (c' n' : Nat), x = .int .i64 qn ∧ v = .slice A' n' c' ∧ Hid (n' = l.length + done.length) ∧ OwnR wr W.heap.size 5 1 A' n' c' (bytesV (l ++ done)) ∧ Gr W wr ∧ CB wr w.heap.size 3 #[.int .i64 bias] ∧ CB wr (w.heap.size + 1) 3 #[.int .i64 cc] ∧ Hid (cc = 36 * (k : Int)) ∧ 0 ≤ cc ∧ cc ≤ 80000000000 ∧ numR q bias qn k done) (fun _ x _ => (intOf x).toNat)
  case atStart => exact ⟨q, 0, 0, [], A, c, n, rfl, rfl, by have := hnl.out; simp [Hid, this], by simpa using (hown.alloc _).alloc _, (hG0.alloc _).alloc _, hcb1, hcb2, by simp [Hid], by omega, by omega, numR.start _ _⟩
  case round =>
    obtain ⟨qn, k, cc, done, A', c', n', rfl, rfl, hn', hown', hG, hc1, hc2, hcc, hcc0, hcc1, hR⟩ := hrel
    have hle := hR.le.1
    have htl := thresh_le k bias
    have hnb : n' ≤ 2000000000000 := by have h1 := hn'.out; have h2 := hR.le.2; have h3 := hnl.out; omega
    by_cases hq : qn < thresh k bias
    · go_wp2_with (first | (go_at_call 146; refine (threshold_c k bias cc hcc hcc0 hcc1 _ _ _ hb hc2 (by omega) hc1).mono ?_; rintro e w1 ⟨rfl, hc3, hgr⟩; have hG1 := hG.grown hgr (fun j hj => by cases hj; have := hG0.size; omega); have hown1 := hown'.grown hgr (.inr (fun e => hc2.not_row (by decide) hown' e.symm))) | (go_at_call 138; refine (pdigit_c _ (by omega) (by omega) _).mono ?_; rintro e w2 ⟨rfl, rfl⟩) | (at_builtin; refine wpList_app1 _ _ elBytes rfl rfl W rfl hown1 hG1 [_] rfl rfl (by rfl) (by omega) (by omega) ?_; intro A2 c2 w2 hown2 hG2 hgr2))
      have hd := hR.done hq
      go_ret
      refine ⟨A2, n' + 1, c2, rfl, ?_, ?_, hG2⟩
      · have h1 := hn'.out
        show n' + 1 = (l ++ appendNumber q bias).length
        rw [hd, h1]; simp; omega
      · rw [hd]
        exact own_cast hown2 (by rw [← List.append_assoc, ← bytesV_snoc]; rfl)
    · have q1 : 0 ≤ ((qn : Int) - (thresh k bias : Int)) % (36 - (thresh k bias : Int)) ∧ ((qn : Int) - (thresh k bias : Int)) % (36 - (thresh k bias : Int)) < 36 - (thresh k bias : Int) := ⟨Int.emod_nonneg _ (by omega), Int.emod_lt_of_pos _ (by omega)⟩
      have q2 : ((qn : Int) - (thresh k bias : Int)) / (36 - (thresh k bias : Int)) ≤ (qn : Int) - (thresh k bias : Int) ∧ 0 ≤ ((qn : Int) - (thresh k bias : Int)) / (36 - (thresh k bias : Int)) := ⟨Int.ediv_le_self _ (by omega), Int.ediv_nonneg (by omega) (by omega)⟩
      go_wp2_with (first | (go_at_call 146; refine (threshold_c k bias cc hcc hcc0 hcc1 _ _ _ hb hc2 (by omega) hc1).mono ?_; rintro e w1 ⟨rfl, hc3, hgr⟩; have hG1 := hG.grown hgr (fun j hj => by cases hj; have := hG0.size; omega); have hown1 := hown'.grown hgr (.inr (fun e => hc2.not_row (by decide) hown' e.symm)); have hc4 := hc1.grown hgr (by simp)) | (go_at_call 138; refine (pdigit_c _ (by omega) (by omega) _).mono ?_; rintro e w2 ⟨rfl, rfl⟩) | (at_builtin; refine wpList_app1 _ _ elBytes rfl rfl W rfl hown1 hG1 [_] rfl rfl (by rfl) (by omega) (by omega) ?_; intro A2 c2 w2 hown2 hG2 hgr2))
      have hs := hR.step hq
      go_roundw
      case rel =>
        refine ⟨(qn - thresh k bias) / (36 - thresh k bias), k + 1, cc + 36, done ++ [pdigit (thresh k bias + (qn - thresh k bias) % (36 - thresh k bias))], A2, c2, n' + 1, ?_, rfl, ?_, ?_, hG2, ?_, ?_, ?_, by omega, ?_, hs⟩
        · rw [cast_div (by omega) (by omega)]
        · have := hn'.out; simp [Hid]; omega
        · exact own_cast hown2 (by rw [← List.append_assoc, ← bytesV_snoc, cast_mod (by omega) (by omega)]; rfl)
        · exact hc4.grown (grow_app hgr2) (hc4.not_row (by decide) hown1)
        · exact hc3.grown (grow_app hgr2) (hc3.not_row (by decide) hown1)
        · have := hcc.out; simp [Hid]; omega
        · have := hcc.out; omega
      case measure =>
        simp only [intOf]
        omega
end Go.Proofs.YtcicefifmkjffaaGreatDoor
