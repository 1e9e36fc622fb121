/- PreloadRoundTrip answers true and leaves its argument as it was, for every list of entries. Conditions: those of the tied card: the five listed tables hold what the program lays them with; the unlisted variable MaxLen holds any int. -/
import Derived.Test.YtcicefifmkjffaaGreatDoorOpen
import Derived.Test.YtcicefifmkjffaaGreatDoorCards
import Derived.Test.YtcicefifmkjffaaGreatDoorTie
import Derived.WalkKit
import Derived.OpenShut
import Derived.Deep.DeepHandedRow
import Derived.LaidMore
import Derived.Lay
import Derived.SevenTiedAt
import Derived.Lib.LaidU8T
import Derived.PinnedBridge
import Derived.Clock
namespace Go.Proofs.YtcicefifmkjffaaGreatDoor
open Go Go.RowKit Hs Go.Deep Go.ChangeShapes Go.WideShapes Go.ChangeAt
set_option maxRecDepth 100000
theorem own_knob : ownKnob (Tryz.prog).godebug = none := by kernel_rfl
theorem accept_eq : Rows.laid_unicode_utf8_acceptRanges (H := Unit) = Lib.acceptData := by kernel_rfl
theorem u8_extra : U8Extra Tryz.prog Tryz.layValid_ren := ⟨by kernel_rfl, by kernel_rfl, by kernel_rfl, by kernel_rfl, by kernel_rfl, by kernel_rfl, by kernel_rfl⟩
theorem env_of {W : World} (hL : laidMetH Tryz.prog Rows.preloadRoundTripRow.laid W) (hS : W.ShapedOpen Tryz.prog) : EnvU W := by
  rw [MakeChecks.laidMetH_plain _ _ _ (by kernel_rfl)] at hL
  refine ⟨?_, utf8Tabs_of_readsT (U8Types.of196 Tryz.layValid) u8_extra ?_ ?_⟩
  · have hg : 0 < (Tryz.prog).globals.size := of_decide_eq_true (by kernel_rfl)
    have h0 : ((begin Tryz.prog (fun _ _ => 0) default).world.heap[0]?).bind Obj.row? = some (#[.int .i64 0], 3) := by kernel_rfl
    obtain ⟨cs, hh, hs, hr⟩ := hS.1 0 _ _ hg h0
    obtain ⟨ts, hts, _, hall⟩ := hr (by kernel_rfl)
    have hc : (Tryz.prog).cellTypes (Tryz.prog).depth 3 = some [3] := by kernel_rfl
    rw [hc] at hts
    cases hts
    have h1 : 0 < cs.size := by rw [hs]; decide
    obtain ⟨u, hu', hok⟩ := hall 0 cs[0] (by simp [h1])
    have hu : u = 3 := by simpa using hu'.symm
    subst hu
    unfold Cell.ok at hok
    rw [Tryz.underlying3] at hok
    have hcell : W.cell? ⟨0, 0, none⟩ = some cs[0] := by simp [World.cell?, hh, h1]
    unfold Env
    rw [hcell]
    cases hv : cs[0] <;> rw [hv] at hok <;> first | (obtain ⟨rfl, _⟩ := hok; exact ⟨_, rfl⟩) | simp at hok
  · rw [← Pinned.utf8First_eq]
    exact Lib.laidMet.reads hL (by simp [Rows.preloadRoundTripRow, Rows.laid_unicode_utf8_first])
  · rw [← accept_eq]
    exact Lib.laidMet.reads hL (by simp [Rows.preloadRoundTripRow])
theorem rt_contract (H : Type) (enc : TypeId × Value → H) (W : World) (base : Nat) (args : Array Value) (ds gs : List (DataW H)) (before : List MemPlace)
    (hval : ∀ (j : Nat) t v, Tryz.f4.params[j]? = some t → args[j]? = some v → Value.okWide Tryz.prog W .any base t v)
    (hW : DataW.Whole enc Tryz.prog Tryz.f4.params.toList Rows.preloadRoundTripSpec.vars false W args.toList ds gs before) (hE : EnvU W) :
    Calls Tryz.prog 4 args W fun e W' => ∃ v, e = .returned v ∧ Rows.preloadRoundTripSpec.post enc Tryz.prog Tryz.f4 false true false false W args v W' := by
  have hW' := hW
  obtain ⟨p, q, hA0, hV, rfl, hfz, hnd⟩ := hW
  have hA : DataW.TrodAll enc Tryz.prog W 0 (fun _ => true) true Tryz.f4.params.toList args.toList ds p := hA0
  rw [Tryz.params4] at hA hval
  obtain ⟨v0, d0, rfl, rfl, h0⟩ := trodAll_one hA
  obtain ⟨rfl, rfl⟩ := trodVars_none hV
  obtain ⟨l, A, c, rfl, hAt, hrd, hback⟩ := open_ents (hval 0 22 v0 rfl rfl) h0
  refine (roundTrip_c l A c W hE hAt hrd).mono fun e W' ⟨he, hG⟩ => ?_
  subst he
  have hlt : ∀ x ∈ p, decide (x.block < W.heap.size) = true := fun x hx => decide_eq_true (hW'.lt x (List.mem_append_left _ hx))
  exact ⟨_, rfl, [d0], [], p ++ [], [], p, [], hW', trodAll_mk1 (shut_bool Tryz.underlying4 _), trodAll_mk1 (hback W' _ hG hlt), rfl, kept_gr hG _, fun h => by cases h⟩
theorem rt_laid (os : Os) : laidMetH Tryz.prog Rows.preloadRoundTripRow.laid ((World.laidAll Tryz.prog os Rows.preloadRoundTripRow.laid).forCall (fun _ _ => 0) ⟨#[], #[.slice none 0 0], []⟩).memory := by
  rw [MakeChecks.laidMetH_plain _ _ _ (by kernel_rfl)]
  exact laidMet_laidAll _ (by kernel_rfl) (by kernel_rfl)
theorem rt_reads (os : Os) {H : Type} (enc : TypeId × Value → H) : ∃ places, DataW.whole enc Tryz.prog ((World.laidAll Tryz.prog os Rows.preloadRoundTripRow.laid).forCall (fun _ _ => 0) ⟨#[], #[.slice none 0 0], []⟩).memory Tryz.f4.params.toList Rows.preloadRoundTripSpec.vars false #[Value.slice none 0 0].toList 8 = some ([.nil], [], places) := ⟨[], by kernel_rfl⟩
theorem rt_lifted (os : Os) (started : os.Started) (H : Type) (enc : TypeId × Value → H) (F : Stop.Interp) :
    ReturnsInHanded {} Tryz.checked os 4 .any ((OpenSpec.ofChange Rows.preloadRoundTripSpec).preRow enc Tryz.prog Tryz.f4 Rows.preloadRoundTripRow.domain false Rows.preloadRoundTripRow.laid) (((OpenSpec.ofChange Rows.preloadRoundTripSpec).at F).post enc Tryz.prog Tryz.f4 false true false false) := by
  obtain ⟨places, hx⟩ := rt_reads os enc
  refine returnsInHanded_of_row (C := Tryz.checked) (s := OpenSpec.ofChange Rows.preloadRoundTripSpec) own_knob started (by kernel_rfl) Tryz.func4
    (witness_row_at (enc := enc) (C := Tryz.checked) false (World.laidAll Tryz.prog os Rows.preloadRoundTripRow.laid) #[.slice none 0 0] (World.laidAll_os _ _ _) (by kernel_rfl) (by kernel_rfl) (by kernel_rfl)
      (OpenSpec.preRow_of_cond 8 hx (by kernel_rfl) (fun k hk => by cases hk) (by kernel_rfl) (rt_laid os))) ?_
  intro W base args ds gs before hval hW _ _ _ hL hS _
  exact rt_contract H enc W base args ds gs before hval hW (env_of hL hS)
theorem rt_said : Rows.PreloadRoundTripSaid :=
  OpenClaim.holds_of_cond 4 Tryz.f4 rfl rfl rfl rfl rfl rfl rfl ⟨rfl, rfl, rfl, rfl, rfl⟩ rfl rfl rfl rfl rfl (by kernel_rfl) Tryz.func4 (by kernel_rfl)
    (of_decide_eq_true (by kernel_rfl)) (by unfold Func.isWrapper; first | (rw [if_pos (by decide +kernel)]; kernel_rfl) | (rw [if_neg (by decide +kernel)]; exact ⟨rfl, rfl⟩))
    (fun os started H enc _ F => by rw [OpenClaim.pre_eq_preRow]; exact rt_lifted os started H enc F)
theorem rt_plain (f : FuncId) (fn : Func) (hf : Tryz.pinned.checked.prog.funcNamed "hstsstore/hstsstorelaw24.PreloadRoundTrip" = some f) (hfn : Tryz.pinned.checked.prog.funcs[f]? = some fn) :
    false = Tryz.pinned.checked.prog.looks [] ∧ ∀ (j : Nat) t, fn.params[j]? = some t → Tryz.pinned.checked.prog.wantsStandIn t = false := by
  obtain rfl : f = 4 := Option.some.inj ((show (Tryz.prog).funcNamed "hstsstore/hstsstorelaw24.PreloadRoundTrip" = some 4 by kernel_rfl).symm.trans hf) |>.symm
  obtain rfl : fn = Tryz.f4 := (Option.some.inj (Tryz.func4.symm.trans hfn)).symm
  refine ⟨by kernel_rfl, fun j t ht => ?_⟩
  rw [Tryz.params4] at ht
  obtain rfl : t = 22 := by simpa using Array.mem_of_getElem? ht
  exact (show (Tryz.prog).wantsStandIn 22 = false by kernel_rfl)
theorem rt_card : Rows.PreloadRoundTripCardSaid :=
  Claim7.holds_tied_plain_at .later [] _ _ _ _ rt_said (fun _ h => by cases h) (by kernel_rfl) (fun _ h => by cases h) preloadRoundTrip_row_tie rfl ⟨rfl, rfl⟩ (by kernel_rfl) rfl rt_plain (by kernel_rfl)
#print axioms rt_card
end Go.Proofs.YtcicefifmkjffaaGreatDoor
