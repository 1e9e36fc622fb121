/- Contract: punycode.Encode (the program's). -/
import Derived.Test.YtcicefifmkjffaaGreatDoorPuny
import Derived.Test.YtcicefifmkjffaaGreatDoorLawP
namespace Go.Proofs.YtcicefifmkjffaaGreatDoor
open Go Go.RowKit Hs
def encRes : Except Nat Bs → Value
  | .ok l => .tuple #[.string (mk l), .int .i64 0]
  | .error n => .tuple #[.string ByteArray.empty, .int .i64 n]
theorem bv_ofNat {p : Nat} (h : p < 256) : bv (UInt8.ofNat p) = .int .u8 p := by
  unfold bv; rw [UInt8.toNat_ofNat', Nat.mod_eq_of_lt (by omega)]
theorem take_at {l : List Nat} {k : Nat} (hk : k < l.length) : l.take (k + 1) = l.take k ++ [l[k]] := List.take_succ_eq_append_getElem hk
theorem first_eq {m b dn : Nat} (h : m = b) : (((dn : Nat) : Int) == ((m : Nat) : Int)) = (dn == b) := by
  subst h; rw [Bool.eq_iff_iff]; simp; omega
theorem cast_mul {dl mm n dn : Nat} (h : n ≤ mm) : ((dl + (mm - n) * (dn + 1) : Nat) : Int) = (dl : Int) + ((mm : Int) - (n : Int)) * ((dn : Int) + 1) := by
  rw [Int.natCast_add, Int.natCast_mul, Int.natCast_sub h, Int.natCast_add]; rfl
theorem mul_bd {mm n dn : Nat} (h : n ≤ mm) (hm : mm ≤ 1114112) (hd : dn ≤ 256) : 0 ≤ ((mm : Int) - (n : Int)) * ((dn : Int) + 1) ∧ ((mm : Int) - (n : Int)) * ((dn : Int) + 1) ≤ 286326784 := by
  have h1 := cast_mul (dl := 0) (dn := dn) h
  have h2 : (mm - n) * (dn + 1) ≤ 1114112 * 257 := Nat.mul_le_mul (by omega) (by omega)
  omega
set_option maxRecDepth 100000 in
set_option maxHeartbeats 2000000 in
theorem encode_c (pts : List Nat) (A : Option Addr) (c : Nat) (w : World) (hrd : Rd w A pts.length 1 (natsV pts)) (hl : pts.length ≤ 65536) (hp : ∀ p ∈ pts, p ≤ 2000000000) :
    Calls Tryz.prog 95 #[.slice A pts.length c] w fun e w' => e = .returned (encRes (encode pts)) ∧ Gr w w' := by
  by_cases h256 : 256 < pts.length
  · go_enter Tryz.func95, Tryz.ntmps95
    go_wp2_with fail
    go_ret2
    exact ⟨by rw [encode, if_pos h256]; rfl, Gr.refl _⟩
  · go_enter Tryz.func95, Tryz.ntmps95
    go_wp2_with fail
    go_loopw [4, 22] (fun v i wr => ∃ (k m : Nat) (A' : Option Addr) (c' : Nat), k ≤ pts.length ∧ i = .int .i64 k ∧ v = .slice A' m c' ∧ Hid (m = (basicOf (pts.take k)).length) ∧ m ≤ k ∧ OwnR wr w.heap.size 5 1 A' m c' (bytesV (basicOf (pts.take k))) ∧ Gr w wr ∧ (pts.take k).all point = true) (fun _ i _ => pts.length - (intOf i).toNat)
    case atStart => exact ⟨0, 0, none, 0, by omega, rfl, rfl, rfl, by omega, OwnR.nil _ _ _ _, Gr.refl _, rfl⟩
    case round =>
      obtain ⟨k, m, A', c', hk, rfl, rfl, hm, hmk, hown, hG, hpt⟩ := hrel
      by_cases hlt : k < pts.length
      · obtain ⟨b, off, rfl, hb, hcell⟩ := (hrd.gr hG).nat_at hlt
        have hpk := hp _ (List.getElem_mem hlt)
        have hsn := take_at hlt
        have hmem := List.getElem_mem hlt
        have HS := Lib.hid hsn
        clear hsn
        generalize pts[k] = p at *
        go_wp2_with (first | (go_at_call 118; refine (point_c _ _).mono ?_; rintro e w1 ⟨rfl, rfl⟩) | (at_builtin; refine wpList_app1 _ _ elBytes rfl rfl w rfl hown hG [_] rfl rfl (by rfl) (by omega) (by omega) ?_; intro A2 c2 w2 hown2 hG2 hgr2))
        · go_ret2
          refine ⟨?_, hG⟩
          have hall : pts.all point = false := by
            rw [List.all_eq_false]
            refine ⟨p, hmem, ?_⟩
            simp_all
          rw [encode, if_neg h256, hall]
          rfl
        · have e1 : basicOf (List.take (k + 1) pts) = basicOf (List.take k pts) ++ [UInt8.ofNat p] := by rw [HS.out, basicOf_snoc, if_pos (by omega)]
          go_roundw
          case rel => exact ⟨k + 1, m + 1, A2, c2, by omega, by go_num, rfl, by rw [e1]; simp [Hid, hm.out], by omega, own_cast hown2 (by rw [e1, ← bytesV_snoc, bv_ofNat (by omega)]), hG2, by rw [HS.out, List.all_append, hpt]; simp_all⟩
          case measure => simp [intOf]; omega
        · have e1 : basicOf (List.take (k + 1) pts) = basicOf (List.take k pts) := by rw [HS.out, basicOf_snoc, if_neg (by omega), List.append_nil]
          go_roundw
          case rel => exact ⟨k + 1, m, A', c', by omega, by go_num, rfl, by rw [e1]; exact hm, by omega, own_cast hown (by rw [e1]), hG, by rw [HS.out, List.all_append, hpt]; simp_all⟩
          case measure => simp [intOf]; omega
      · obtain rfl : k = pts.length := by omega
        rw [List.take_length] at hm hown hpt
        have hfin := encode_ok pts (by omega) hpt
        have hpt2 : ∀ p ∈ pts, p < 0x110000 := fun p hp' => by
          have := List.all_eq_true.1 hpt p hp'
          simp [point] at this
          omega
        have HF := Lib.hid hfin
        have HP := Lib.hid hpt2
        clear hfin hpt2 hpt
        have hpos : Hid (0 < m → (encStart pts).out = basicOf pts ++ [45]) := by
          intro h0
          have : basicOf pts ≠ [] := by intro h; have := hm.out; rw [h] at this; simp at this; omega
          simp [encStart, this]
        have hzero : Hid (¬ 0 < m → (encStart pts).out = [] ∧ basicOf pts = []) := by
          intro h0
          have : basicOf pts = [] := List.eq_nil_of_length_eq_zero (by have := hm.out; omega)
          simp [encStart, this]
        go_wp2_with (first | (at_builtin; refine wpList_app1 _ _ elBytes rfl rfl w rfl hown hG [_] rfl rfl (by rfl) (by omega) (by omega) ?_; intro A2 c2 w2 hown2 hG2 hgr2))
        all_goals
          go_loopw [4, 8, 9, 10, 11] (fun v4 v8 v9 v10 v11 wr => ∃ (out : Bs) (dl bi dn n L : Nat) (A3 : Option Addr) (c3 : Nat), v4 = .slice A3 L c3 ∧ v8 = .int .i64 n ∧ v9 = .int .i64 dl ∧ v10 = .int .i64 bi ∧ v11 = .int .i64 dn ∧ Hid (L = out.length) ∧ OwnR wr w.heap.size 5 1 A3 L c3 (bytesV out) ∧ Gr w wr ∧ bi ≤ 4398046511104 ∧ L ≤ 300 + dn * 1000000001 ∧ EncInv pts (basicOf pts).length n ⟨out, dl, bi, dn⟩ (encLoop pts (basicOf pts).length pts.length 128 (encStart pts)).out) (fun _ _ _ _ v _ => pts.length - (intOf v).toNat)
          case atStart => first
            | exact ⟨(encStart pts).out, 0, 72, m, 128, _, A2, c2, rfl, rfl, rfl, rfl, rfl, by rw [hpos.out ‹_›]; simp [Hid, hm.out], own_cast hown2 (by rw [hpos.out ‹_›, ← bytesV_snoc]; rfl), hG2, by omega, by omega, by rw [hm.out]; exact EncInv.start pts⟩
            | exact ⟨(encStart pts).out, 0, 72, m, 128, _, A', c', rfl, rfl, rfl, rfl, rfl, by rw [(hzero.out ‹_›).1, hm.out, (hzero.out ‹_›).2]; rfl, own_cast hown (by rw [(hzero.out ‹_›).1, (hzero.out ‹_›).2]), hG, by omega, by omega, by rw [hm.out]; exact EncInv.start pts⟩
          clear hown hG
          obtain ⟨out, dl, bi, dn, n, L, A3, c3, rfl, rfl, rfl, rfl, rfl, hL, hown, hG, hbi, hLL, hI⟩ := hrel
          by_cases hd : dn < pts.length
          · have hle := hI.least_ hd HP.out
            have hnx := hI.next hd HP.out (by omega)
            have hlo := hI.lo
            have hdb : dl ≤ 257 := hI.delta
            have HL := Lib.hid hle
            have HN := Lib.hid hnx
            clear hle hnx
            go_wp2_with fail
            go_loop [12, 53] (fun v12 v53 => ∃ k mm : Nat, k ≤ pts.length ∧ v53 = .int .i64 k ∧ v12 = .int .i64 mm ∧ Hid (mm = least n (pts.take k)) ∧ mm ≤ 1114112) (fun _ v => pts.length - (intOf v).toNat)
            case atStart => exact ⟨0, 1114112, by omega, rfl, rfl, rfl, by omega⟩
            obtain ⟨k, mm, hk, rfl, rfl, hmm, hmb⟩ := hrel
            by_cases hlt : k < pts.length
            · obtain ⟨b, off, rfl, hb, hcell⟩ := (hrd.gr hG).nat_at hlt
              have hpk := hp _ (List.getElem_mem hlt)
              have hsn := take_at hlt
              have HS := Lib.hid hsn
              clear hsn
              generalize pts[k] = p at *
              go_wp2_with fail
              case roundEnd =>
                go_round
                case rel => exact ⟨k + 1, min mm p, by omega, by go_num, by simp; split <;> omega, by rw [HS.out, least_snoc, if_pos (by omega), ← hmm.out]; rfl, by omega⟩
                case measure => simp [intOf]; omega
              case roundEnd =>
                go_round
                case rel => exact ⟨k + 1, mm, by omega, by go_num, rfl, by rw [HS.out, least_snoc, if_neg (by omega), ← hmm.out]; rfl, by omega⟩
                case measure => simp [intOf]; omega
            · obtain rfl : k = pts.length := by omega
              rw [List.take_length] at hmm
              have hnm : n ≤ mm := by rw [hmm.out]; exact HL.out.1
              have hmul : 0 ≤ ((mm : Int) - (n : Int)) * ((dn : Int) + 1) ∧ ((mm : Int) - (n : Int)) * ((dn : Int) + 1) ≤ 286326784 := mul_bd hnm hmb (by omega)
              go_wp2_with fail
              go_loopw [4, 9, 10, 11, 75] (fun v4 v9 v10 v11 v75 wr => ∃ (k : Nat) (out' : Bs) (dl' bi' dn' L' : Nat) (A4 : Option Addr) (c4 : Nat), k ≤ pts.length ∧ v75 = .int .i64 k ∧ v4 = .slice A4 L' c4 ∧ v9 = .int .i64 dl' ∧ v10 = .int .i64 bi' ∧ v11 = .int .i64 dn' ∧ Hid (L' = out'.length) ∧ OwnR wr w.heap.size 5 1 A4 L' c4 (bytesV out') ∧ Gr w wr ∧ bi' ≤ 4398046511104 ∧ L' ≤ 300 + dn' * 1000000001 ∧ Hid (encPass mm (basicOf pts).length ⟨out, dl + (mm - n) * (dn + 1), bi, dn⟩ (pts.take k) = ⟨out', dl', bi', dn'⟩) ∧ dl' ≤ 300000000 + k ∧ dn' ≤ 256 + k) (fun _ _ _ _ v _ => pts.length - (intOf v).toNat)
              case atStart => exact ⟨0, out, dl + (mm - n) * (dn + 1), bi, dn, L, A3, c3, by omega, rfl, rfl, by rw [cast_mul hnm], rfl, rfl, hL, hown, hG, hbi, hLL, rfl, by have := hI.delta; have h2 := cast_mul (dl := 0) (dn := dn) hnm; simp at this; omega, by omega⟩
              clear hown hG hL hLL hbi
              obtain ⟨k, out', dl', bi', dn', L', A4, c4, hk, rfl, rfl, rfl, rfl, rfl, hL, hown, hG, hbi, hLL, hE, hdl, hdn⟩ := hrel
              by_cases hlt : k < pts.length
              · obtain ⟨b, off, rfl, hb, hcell⟩ := (hrd.gr hG).nat_at hlt
                have hpk := hp _ (List.getElem_mem hlt)
                have hsn := take_at hlt
                have HS := Lib.hid hsn
                clear hsn
                generalize pts[k] = p at *
                have hal := adapt_le dl' (dn' + 1) ((dn' : Int) == (m : Int))
                have hdl := appendNumber_length dl' bi'
                go_wp2_with (first | (go_at_call 119; refine (appendNumber_c w _ out' _ _ _ _ _ hL hG hown (by omega) (by omega) (by omega)).mono ?_; rintro e w1 ⟨A5, n5, c5, rfl, hn5, hown5, hG5⟩) | (go_at_call 120; refine (adapt_c dl' (dn' + 1) _ _ (by omega) (by omega) (by omega)).mono ?_; rintro e w1' ⟨rfl, rfl⟩))
                case roundEnd =>
                  go_roundw
                  case rel => exact ⟨k + 1, out', dl' + 1, bi', dn', L', A4, c4, by omega, by go_num, rfl, by go_num, rfl, rfl, hL, hown, hG, hbi, hLL, by rw [HS.out, encPass_snoc, hE.out]; simp [Hid, encStep, show p < mm by omega], by omega, by omega⟩
                  case measure => simp [intOf]; omega
                case roundEnd =>
                  have hpm : p = mm := by have hq : ((p : Int) == (mm : Int)) = true := by assumption
                                          rw [beq_iff_eq] at hq; omega
                  go_roundw
                  case rel => exact ⟨k + 1, out' ++ appendNumber dl' bi', 0, _, dn' + 1, n5, A5, c5, by omega, by go_num, rfl, rfl, rfl, by go_num, hn5, hown5, hG5, by omega, by have := hn5.out; have := hL.out; simp at *; omega, by rw [HS.out, encPass_snoc, hE.out]; simp [Hid, encStep, hpm, first_eq hm.out], by omega, by omega⟩
                  case measure => simp [intOf]; omega
                case roundEnd =>
                  have hpm : p ≠ mm := by have hq : ((p : Int) == (mm : Int)) = false := by assumption
                                          intro he; rw [he] at hq; simp at hq
                  go_roundw
                  case rel => exact ⟨k + 1, out', dl', bi', dn', L', A4, c4, by omega, by go_num, rfl, rfl, rfl, rfl, hL, hown, hG, hbi, hLL, by rw [HS.out, encPass_snoc, hE.out]; simp [Hid, encStep, show ¬ p < mm by omega, hpm], by omega, by omega⟩
                  case measure => simp [intOf]; omega
              · obtain rfl : k = pts.length := by omega
                rw [List.take_length] at hE
                have hnx := HN.out
                rw [← hmm.out] at hnx
                have hE2 := hE.out
                rw [hE2] at hnx
                have HN2 := Lib.hid hnx
                have hdd := (encPass_facts mm (basicOf pts).length ⟨out, dl + (mm - n) * (dn + 1), bi, dn⟩ pts).1
                rw [hE2] at hdd
                have hl3 := HL.out.2.2
                rw [← hmm.out] at hl3
                have HD := Lib.hid hdd
                clear hnx hE2 hdd HN
                go_wp2_with fail
                go_roundw
                case rel => first
                  | exact ⟨out', dl' + 1, bi', dn', mm + 1, L', A4, c4, rfl, by go_num, by go_num, rfl, rfl, hL, hown, hG, hbi, hLL, HN2.out⟩
                  | exact ⟨_, _, _, _, _, ⟨out', dl' + 1, bi', dn', mm + 1, L', A4, c4, rfl, rfl, rfl, rfl, rfl, hL, hown, hbi, hLL, HN2.out⟩, rfl, by go_num, by go_num, rfl, rfl⟩
                case measure =>
                  have := HD.out
                  simp only [intOf] at *
                  omega
          · have hex := hI.exit hd
            have HX := Lib.hid hex
            clear hex
            have hcv := own_string hown Tryz.underlying53 Tryz.underlying5 Tryz.underlying9
            go_wp2_with fail
            go_ret2
            exact ⟨by rw [HF.out, ← HX.out]; rfl, hG⟩
end Go.Proofs.YtcicefifmkjffaaGreatDoor
