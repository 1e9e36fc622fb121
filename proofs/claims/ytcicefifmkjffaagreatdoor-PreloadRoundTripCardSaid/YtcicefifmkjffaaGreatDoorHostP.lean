/- host.Parse where it is plain: a name of ASCII bytes without '%' and '[' whose lower-case form is a valid name. -/
import Derived.Test.YtcicefifmkjffaaGreatDoorHostV
import Derived.Test.YtcicefifmkjffaaGreatDoorShelf4
import Derived.Test.YtcicefifmkjffaaGreatDoorLawC
import Derived.Test.YtcicefifmkjffaaGreatDoorPinC
import Derived.Test.YtcicefifmkjffaaGreatDoorShelf5
import Derived.Test.YtcicefifmkjffaaGreatDoorRow
namespace Go.Proofs.YtcicefifmkjffaaGreatDoor
open Go Go.RowKit Hs
set_option maxHeartbeats 1000000 in
set_option maxRecDepth 100000 in
theorem decode_plain (s : ByteArray) (w : World) (hs : s.size ≤ 65536) (hp : ∀ b ∈ s.data.toList, b ≠ 37) : Calls Tryz.prog 87 #[.string s] w fun e w' => e = .returned (.tuple #[.string s, .bool true]) ∧ Gr w w' := by
  have HP := Lib.hid (fun (k : Nat) (h : k < s.size) => (show ((s[k].toNat : Int) != 37) = true by
    rw [bne_iff_ne]; intro h9
    exact hp s[k] (List.mem_of_getElem? (byteAt s k h)) (UInt8.toNat_inj.1 (by have : (37 : UInt8).toNat = 37 := rfl; omega))))
  clear hp
  go_enter Tryz.func87, Tryz.ntmps87
  go_wp2_with fail
  refine wp_scope_straight ?_
  go_wp2_with (at_make; refine wpList_mk0 _ _ elBytes rfl rfl w (Gr.refl _) s.size rfl rfl (by omega) (by omega) ?_; intro A c w1 hown hG hgr)
  refine wp_label ?_
  go_wp2_with fail
  go_loopw [4, 5] (fun v i wr => ∃ (k : Nat) (A : Option Addr) (c : Nat), k ≤ s.size ∧ i = .int .i64 k ∧ v = .slice A k c ∧ OwnR wr w.heap.size 5 1 A k c (bytesV (s.data.toList.take k)) ∧ Gr w wr) (fun _ i _ => s.size - (intOf i).toNat)
  case atStart => exact ⟨0, A, c, by omega, rfl, rfl, hown, hG⟩
  case round =>
    obtain ⟨k, A, c, hk, rfl, rfl, hown, hG⟩ := hrel
    have hcv := own_string hown Tryz.underlying53 Tryz.underlying5 Tryz.underlying9
    by_cases hlt : k < s.size
    · have h37 := HP.out k hlt
      go_wp2_with (at_builtin; refine wpList_app1 _ _ elBytes rfl rfl w rfl hown hG [_] rfl rfl (by rfl) (by omega) (by omega) ?_; intro A' c' w' hown' hG' hgr')
      go_roundw
      case rel => exact ⟨k + 1, A', c', by omega, by go_num, by go_num, own_cast hown' (by rw [take_snoc s k hlt, ← bytesV_snoc]; rfl), hG'⟩
      case measure => simp [intOf]; omega
    · go_wp2_with fail
      try rw [Exit.noGoto_ret]
      go_ret2
      exact ⟨by rw [List.take_of_length_le (by rw [list_len]; omega)]; rfl, hG⟩
/-- What a call may lean on: MaxLen, and the tables of package utf8. -/
structure EnvU (w : World) : Prop where
  mx : Env w
  u8 : Lib.Utf8Tabs 1 2 w
theorem EnvU.gr {w w' : World} (h : EnvU w) (hg : Gr w w') : EnvU w' := ⟨h.mx.gr hg, Utf8Tabs_below h.u8 hg⟩
theorem valid_c (s : ByteArray) (w : World) (hE : EnvU w) (hs : s.size ≤ 1000000) (ha : ∀ b ∈ s.data.toList, b.toNat < 128) : Calls Tryz.prog 114 #[.string s] w fun e w' => e = .returned (.bool true) ∧ Gr w w' := by
  refine (Any.utf8_ValidString Tryz.layValid s w (by omega) hE.u8).mono ?_
  rintro e w' ⟨rfl, hG⟩
  refine ⟨?_, hG⟩
  rw [Lib.validD_ascii s.data.toList.length s.data.toList (fun b hb => ha b (List.mem_of_mem_take hb)), List.drop_length]; rfl
theorem rcount_c (s : ByteArray) (w : World) (hs : s.size ≤ 1000000) (ha : ∀ b ∈ s.data.toList, b.toNat < 128) : Calls Tryz.prog 115 #[.string s] w fun e w' => e = .returned (.int .i64 s.size) ∧ Gr w w' := by
  refine (Tryz.utf8_RuneCountInString s w (by omega)).mono ?_
  rintro e w' ⟨rfl, pos, rfl⟩
  exact ⟨by rw [Lib.runeCount_ascii s (fun j h => ha _ (List.mem_of_getElem? (byteAt s j h)))], (Gr.refl w).alloc _⟩
theorem lower_ascii {s : ByteArray} : (mk (lower s.data.toList)).size = s.size := by rw [mk_size]; simp [lower]
theorem toASCII_ok (s : ByteArray) (w : World) (hE : EnvU w) (hs : s.size ≤ 256) (ha : ∀ b ∈ s.data.toList, b.toNat < 128) (hv : validLabel (lower s.data.toList) = true) : Calls Tryz.prog 91 #[.string s] w fun e w' => e = .returned (.tuple #[.string (mk (lower s.data.toList)), .int .i64 0]) ∧ Gr w w' := by
  have H1 := Lib.hid (valid_c s w hE (by omega) ha)
  have H2 := Lib.hid (fun w => rcount_c s w (by omega) ha)
  have H3 := Lib.hid (fun w => lower_c s w (by omega))
  have H4 := Lib.hid (fun w => by have := validLabel_c (mk (lower s.data.toList)) w (by rw [lower_ascii]; omega); rwa [mk_list, hv] at this : ∀ w : World, Calls Tryz.prog 37 #[.string (mk (lower s.data.toList))] w fun e w' => e = .returned (.bool true) ∧ Gr w w')
  generalize mk (lower s.data.toList) = t at *
  clear ha hv hE
  go_enter Tryz.func91, Tryz.ntmps91
  go_wp2_with fail
  refine H1.out.mono ?_
  rintro e w1 ⟨rfl, hG1⟩
  go_wp2_with fail
  refine (H2.out _).mono ?_
  rintro e w2 ⟨rfl, hG2⟩
  go_wp2_with fail
  refine (H3.out _).mono ?_
  rintro e w3 ⟨rfl, hG3⟩
  go_wp2_with fail
  refine (H2.out _).mono ?_
  rintro e w4 ⟨rfl, hG4⟩
  go_wp2_with fail
  refine (H4.out _).mono ?_
  rintro e w5 ⟨rfl, hG5⟩
  go_wp2_with fail
  go_ret2
  exact ⟨rfl, (((hG1.trans hG2).trans hG3).trans hG4).trans hG5⟩
theorem lowerB_dot (b : UInt8) : lowerB b = 46 ↔ b = 46 := by
  unfold lowerB
  split
  · rename_i h
    constructor
    · intro h2
      have h3 := congrArg UInt8.toNat h2
      rw [UInt8.toNat_add] at h3
      have : (32 : UInt8).toNat = 32 := rfl
      have : (46 : UInt8).toNat = 46 := rfl
      omega
    · rintro rfl
      have : (46 : UInt8).toNat = 46 := rfl
      omega
  · rfl
theorem splitAux_lower : ∀ l cur : Bs, splitAux 46 (lower cur) (lower l) = (splitAux 46 cur l).map lower
  | [], cur => rfl
  | b :: l, cur => by
    show (if lowerB b = 46 then lower cur :: splitAux 46 [] (lower l) else splitAux 46 (lower cur ++ [lowerB b]) (lower l)) = List.map lower (if b = 46 then cur :: splitAux 46 [] l else splitAux 46 (cur ++ [b]) l)
    by_cases h : b = 46
    · rw [if_pos ((lowerB_dot b).2 h), if_pos h, List.map_cons, ← splitAux_lower l []]; rfl
    · rw [if_neg (fun h2 => h ((lowerB_dot b).1 h2)), if_neg h, ← splitAux_lower l (cur ++ [b]), lower_snoc]
theorem split_lower (l : Bs) : split 46 (lower l) = (split 46 l).map lower := splitAux_lower l []
theorem join_joinB : ∀ xs : List Bs, Lib.join xs [46] = joinB 46 xs
  | [] => rfl
  | [x] => by rw [Lib.join_one]; rfl
  | x :: y :: r => by
    have ih := join_joinB (y :: r)
    show _ = x ++ 46 :: joinB 46 (y :: r)
    rw [← ih]
    simp [Lib.join, List.intercalate, List.intersperse]
def trimDot (l : Bs) : Bs := Lib.trimSuffix l [46]
def lowK (ls : List Bs) (k : Nat) : List Bs := (ls.take k).map lower ++ ls.drop k
theorem lowK_set {ls : List Bs} {k : Nat} {x : Bs} (hx : ls[k]? = some x) : (strsV (lowK ls k)).set k (strV (lower x)) = strsV (lowK ls (k + 1)) := by
  obtain ⟨h1, h2⟩ := List.getElem?_eq_some_iff.1 hx
  have hl : ((ls.take k).map lower).length = k := by simp; omega
  unfold lowK strsV
  rw [List.map_append, List.set_append_right _ _ (by simp; omega), List.take_succ_eq_append_getElem h1, h2, List.map_append, List.map_append, List.map_append, List.append_assoc, List.drop_eq_getElem_cons h1]
  congr 1
  rw [List.length_map, hl, Nat.sub_self]; rfl
theorem lowK_at {ls : List Bs} {k : Nat} {x : Bs} (hx : ls[k]? = some x) : (lowK ls k)[k]? = some x := by
  obtain ⟨h1, h2⟩ := List.getElem?_eq_some_iff.1 hx
  unfold lowK
  rw [List.getElem?_append_right (by simp; omega), List.getElem?_drop]
  simp only [List.length_map, List.length_take, Nat.min_eq_left (Nat.le_of_lt h1)]
  rw [Nat.sub_self, Nat.add_zero, hx]
theorem lowK_length (ls : List Bs) (k : Nat) : (lowK ls k).length = ls.length := by simp [lowK]; omega
def hostV (n : Bs) : Value := .tuple #[.agg #[.int .i64 1, .string (mk n), .int .u32 0, .int .u16 0, .int .u16 0, .int .u16 0, .int .u16 0, .int .u16 0, .int .u16 0, .int .u16 0, .int .u16 0], .int .i64 0]
/-- A raw name that host.Parse takes as a domain. -/
structure PlainH (l : Bs) : Prop where
  asc : ∀ b ∈ l, b.toNat < 128 ∧ b ≠ 37
  head : [91].isPrefixOf l = false
  num : numeric (trimDot l) = false
  val : validName (lower (trimDot l)) = true
  len : l.length ≤ 1024
theorem trimDot_sub (l : Bs) : ∀ b ∈ trimDot l, b ∈ l := by
  intro b hb
  unfold trimDot Lib.trimSuffix at hb
  split at hb
  · exact List.mem_of_mem_take hb
  · exact hb
theorem trimDot_len (l : Bs) : (trimDot l).length ≤ l.length := by
  unfold trimDot Lib.trimSuffix
  split
  · exact List.length_take_le' _ _
  · exact Nat.le_refl _
theorem splitAux_mem (c : UInt8) : ∀ (l cur : Bs), ∀ p ∈ splitAux c cur l, ∀ b ∈ p, b ∈ cur ∨ b ∈ l
  | [], cur, p, hp, b, hb => by
    have : p = cur := by simpa [splitAux] using hp
    exact .inl (this ▸ hb)
  | x :: l, cur, p, hp, b, hb => by
    change p ∈ (if x = c then cur :: splitAux c [] l else splitAux c (cur ++ [x]) l) at hp
    by_cases h : x = c
    · rw [if_pos h] at hp
      rcases List.mem_cons.1 hp with rfl | hp
      · exact .inl hb
      · rcases splitAux_mem c l [] p hp b hb with h | h
        · simp at h
        · exact .inr (List.mem_cons_of_mem _ h)
    · rw [if_neg h] at hp
      rcases splitAux_mem c l (cur ++ [x]) p hp b hb with h | h
      · rcases List.mem_append.1 h with h | h
        · exact .inl h
        · exact .inr (by rw [List.mem_singleton] at h; simp [h])
      · exact .inr (List.mem_cons_of_mem _ h)
theorem split_mem {c : UInt8} {l p : Bs} (hp : p ∈ split c l) {b : UInt8} (hb : b ∈ p) : b ∈ l := by
  rcases splitAux_mem c l [] p hp b hb with h | h
  · simp at h
  · exact h
theorem validLabel_le {l : Bs} (h : validLabel l = true) : l.length ≤ 63 := by
  unfold validLabel at h
  simp only [Bool.and_eq_true, decide_eq_true_eq] at h
  exact h.1.1.1.1.2
set_option maxRecDepth 100000 in
set_option maxHeartbeats 4000000 in
theorem parseH_c (s : ByteArray) (w : World) (hE : EnvU w) (hp : PlainH s.data.toList) : Calls Tryz.prog 51 #[.string s] w fun e w' => e = .returned (hostV (lower (trimDot s.data.toList))) ∧ Gr w w' := by
  have hL := list_len s
  have hsz : s.size ≤ 1024 := by have := hp.len; omega
  have hval := hp.val
  have H1 := Lib.hid (fun w => by have := hasPrefix_c s ⟨#[91]⟩ w; rwa [show List.isPrefixOf (ByteArray.mk #[91]).data.toList s.data.toList = false from hp.head] at this : ∀ w : World, Calls Tryz.prog 85 #[.string s, .string ⟨#[91]⟩] w fun e w' => e = .returned (.bool false) ∧ w = w')
  have H2 := Lib.hid (fun w => decode_plain s w (by omega) (fun b hb => (hp.asc b hb).2))
  have H3 := Lib.hid (fun w => (Tryz.strings_TrimSuffix s ⟨#[46]⟩ w (by omega)).mono (fun _ _ h => (⟨h.1, h.2.symm⟩ : _ ∧ w = _)))
  have htl := trimDot_len s.data.toList
  have hta : ∀ b ∈ trimDot s.data.toList, b.toNat < 128 := fun b hb => (hp.asc b (trimDot_sub _ b hb)).1
  have hnum := hp.num
  rw [show (ByteArray.mk #[46]).data.toList = [46] from rfl, show Lib.trimSuffix s.data.toList [46] = trimDot s.data.toList from rfl] at H3
  generalize trimDot s.data.toList = t at *
  have htz : (mk t).size ≤ 1024 := by rw [mk_size]; omega
  have H4 := Lib.hid (fun w hE => by have := numeric_c (mk t) w hE (by omega); rwa [mk_list, hnum] at this : ∀ w : World, Env w → Calls Tryz.prog 36 #[.string (mk t)] w fun e w' => e = .returned (.bool false) ∧ Gr w w')
  have H5 := Lib.hid (fun w hE => split_c (mk t) 46 w hE (by omega))
  have HE := Lib.hid hE
  clear hp hL hE hnum htl
  go_enter Tryz.func51, Tryz.ntmps51
  go_wp2_with fail
  refine (H1.out _).mono ?_
  rintro e w1 ⟨rfl, rfl⟩
  go_wp2_with fail
  refine (H2.out _).mono ?_
  rintro e w2 ⟨rfl, hG2⟩
  go_wp2_with fail
  refine (H3.out _).mono ?_
  rintro e w3 ⟨rfl, rfl⟩
  have hGa := ((Gr.refl w).alloc (.cells #[.int .i64 0, .string ⟨#[]⟩, .int .u32 0, .int .u16 0, .int .u16 0, .int .u16 0, .int .u16 0, .int .u16 0, .int .u16 0, .int .u16 0, .int .u16 0] 87)).trans hG2
  have hca : CB w2 w.heap.size 87 #[.int .i64 0, .string ⟨#[]⟩, .int .u32 0, .int .u16 0, .int .u16 0, .int .u16 0, .int .u16 0, .int .u16 0, .int .u16 0, .int .u16 0, .int .u16 0] := (CB.new w _ _).gr hG2
  go_wp2_with fail
  refine (H4.out w2 (HE.out.gr hGa).mx).mono ?_
  rintro e w3 ⟨rfl, hG3⟩
  have hGb := hGa.trans hG3
  have hcb := hca.gr hG3
  clear hG2 hca
  go_wp2_with fail
  refine (H5.out w3 (HE.out.gr hGb).mx).mono ?_
  rintro e w4 ⟨A, m, rfl, hm, hown, hG4⟩
  rw [mk_list] at hm hown
  have hGc := hGb.trans hG4
  have hcc := hcb.gr hG4
  have hval' := hval
  have hval2 : ∀ x ∈ split 46 t, validLabel (lower x) = true := by
    intro x hx
    unfold validName at hval'
    rw [Bool.and_eq_true, split_lower] at hval'
    exact List.all_eq_true.1 hval'.2 _ (List.mem_map_of_mem hx)
  have HV2 := Lib.hid hval2
  have HVL := Lib.hid (split_le 46 t)
  have hml : m ≤ 100000 := by have h1 := hm.out; have h2 := (split_length 46 t).2; rw [mk_size] at htz; omega
  have hwsz := hGb.size
  have hown0 := hown.mono (show w.heap.size + 1 ≤ w3.heap.size from hcb.lt)
  clear hval2 hval' hGa hGb hG3 hcb hown
  go_wp2_with fail
  go_loopw [52] (fun v52 wr => Gr w wr ∧ CB wr w.heap.size 87 #[.int .i64 0, .string ⟨#[]⟩, .int .u32 0, .int .u16 0, .int .u16 0, .int .u16 0, .int .u16 0, .int .u16 0, .int .u16 0, .int .u16 0, .int .u16 0] ∧ ∃ k : Nat, k ≤ m ∧ v52 = .int .i64 k ∧ OwnR wr (w.heap.size + 1) 9 1 A m m (strsV (lowK (split 46 t) k))) (fun v52 _ => m - (intOf v52).toNat)
  case atStart => exact ⟨hGc, hcc, 0, by omega, rfl, by simpa [lowK] using hown0⟩
  case round =>
    clear hGc hcc hown0
    obtain ⟨hG, hc, k, hk, rfl, hown⟩ := hrel
    by_cases hkm : k < m
    · obtain ⟨x, hx⟩ : ∃ x, (split 46 t)[k]? = some x := ⟨_, List.getElem?_eq_getElem (by have := hm.out; omega)⟩
      have hxm := List.mem_of_getElem? hx
      have hxv := HV2.out x hxm
      have hxl : x.length ≤ 63 := by have := validLabel_le hxv; simpa [lower] using this
      obtain ⟨g, x', rfl, hB, hg, hx', hcell⟩ := hown.str_at hkm
      obtain rfl : x' = x := by rw [lowK_at hx] at hx'; injection hx' with h; exact h.symm
      have HA := Lib.hid (toASCII_ok (mk x') wr (HE.out.gr hG) (by rw [mk_size]; omega) (fun b hb => hta b (split_mem hxm hb)) hxv)
      have HX := Lib.hid (lowK_set hx)
      rw [mk_list] at HA
      clear hx hxm hxv hx'
      have hst := hown.stored k (strV (lower x'))
      rw [HX.out] at hst
      go_wp2_with fail
      refine HA.out.mono ?_
      rintro e w5 ⟨rfl, hG5⟩
      have hown5 := hown.gr hG5
      have hc5 := hc.gr hG5
      have k1 : w5.cell? ⟨g, k, none⟩ = some (.string (mk x')) := (hG5.cell (p := ⟨g, k, none⟩) hg).trans hcell
      have f1 := hown5.frozen k
      have hst := hown5.stored k (strV (lower x'))
      rw [HX.out] at hst
      go_wp2_with fail
      go_roundw
      case rel => exact ⟨(hG.trans hG5).setCell (p := ⟨g, k, none⟩) (by show w.heap.size ≤ g; omega) _, hc5.far (p := ⟨g, k, none⟩) (by show w.heap.size ≠ g; omega) _, k + 1, by omega, by go_num, hst⟩
      case measure => simp [intOf]; omega
    · obtain rfl : k = m := by omega
      obtain ⟨g, rfl, hB, hg⟩ := hown.form (by have h1 := hm.out; have h2 := (split_length 46 t).1; omega)
      have hxs : ((split 46 t).map fun x => mk (lower x)).length = k := by rw [List.length_map]; exact hm.out.symm
      have hlk : lowK (split 46 t) k = (split 46 t).map lower := by unfold lowK; rw [hm.out, List.take_length, List.drop_length, List.append_nil]
      have hjn : Lib.join (((split 46 t).map fun x => mk (lower x)).map (·.data.toList)) [46] = lower t := by
        rw [join_joinB, List.map_map, show ((fun b : ByteArray => b.data.toList) ∘ fun x => mk (lower x)) = lower from rfl, ← split_lower, joinB_split]
      have HJ := Lib.hid (Tryz.strings_Join g 0 k ((split 46 t).map fun x => mk (lower x)) ⟨#[46]⟩ wr (by
        intro j x hx
        rw [Nat.zero_add]
        have hj := (List.getElem?_eq_some_iff.1 hx).1
        rw [hxs] at hj
        rw [hown.cell j (by omega), hlk]
        unfold strsV strV
        rw [List.getElem?_map, List.getElem?_map]
        rw [List.getElem?_map] at hx
        cases hz : (split 46 t)[j]? with
        | none => rw [hz] at hx; simp at hx
        | some z => rw [hz] at hx; simp at hx; subst hx; rfl) hg (by omega) (by omega) (by rw [show (ByteArray.mk #[46]).data.toList = [46] from rfl, hjn, show (lower t).length = t.length by simp [lower]]; rw [mk_size] at htz; omega))
      rw [show (ByteArray.mk #[46]).data.toList = [46] from rfl, hjn, hxs] at HJ
      change Hid (Calls Tryz.prog 92 #[.slice (some ⟨g, 0, none⟩) k k, .string ⟨#[46]⟩] wr fun e w' => e = .returned (.string (mk (lower t))) ∧ Below wr.heap.size wr w') at HJ
      have HNum := Lib.hid (show numeric (lower t) = false by unfold validName at hval; simp only [Bool.and_eq_true, Bool.not_eq_true'] at hval; exact hval.1.2)
      have hlen : (mk (lower t)).size ≤ 253 := by unfold validName at hval; simp only [Bool.and_eq_true, decide_eq_true_eq] at hval; exact hval.1.1
      have HN := Lib.hid (fun w hE => by have := numeric_c (mk (lower t)) w hE (by omega); rwa [mk_list, HNum.out] at this : ∀ w : World, Env w → Calls Tryz.prog 36 #[.string (mk (lower t))] w fun e w' => e = .returned (.bool false) ∧ Gr w w')
      clear hjn hlk hxs
      go_wp2_with fail
      refine HJ.out.mono ?_
      rintro e w6 ⟨rfl, hG6⟩
      have hG6' : Gr wr w6 := hG6
      clear hG6
      go_wp2_with fail
      refine (HN.out w6 (HE.out.gr (hG.trans hG6')).mx).mono ?_
      rintro e w8 ⟨rfl, hG8⟩
      have h8 : CB w8 w.heap.size 87 #[.int .i64 0, .string ⟨#[]⟩, .int .u32 0, .int .u16 0, .int .u16 0, .int .u16 0, .int .u16 0, .int .u16 0, .int .u16 0, .int .u16 0, .int .u16 0] := hc.gr (hG6'.trans hG8)
      have hg8 : Gr w w8 := hG.trans (hG6'.trans hG8)
      generalize hnm : mk (lower t) = nm at *
      have HNM := Lib.hid hnm
      clear hnm
      go_wp2_with (refine wpList_st 87 _ _ rfl rfl w.heap.size _ rfl rfl h8 (by kernel_rfl) rfl rfl ?_; intro w9 h9 hg9)
      refine bodyPost_ret (results_ct rfl _ _ rfl h9 Tryz.underlying87 rfl (by kernel_rfl)) rfl ⟨by unfold hostV; rw [HNM.out]; rfl, hg8.grown hg9 (fun k e => by cases e; exact Nat.le_refl _)⟩
end Go.Proofs.YtcicefifmkjffaaGreatDoor
