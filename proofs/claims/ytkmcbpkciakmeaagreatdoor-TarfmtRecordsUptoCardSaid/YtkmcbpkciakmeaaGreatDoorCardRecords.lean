/- The law TarfmtRecords, of arguments of bulk at most 1048576: the walk, the row and its card; nothing is asked beside what the row says. -/
import Derived.Test.YtkmcbpkciakmeaaGreatDoorMalive
import Derived.Test.YtkmcbpkciakmeaaGreatDoorMref
import Derived.Test.YtkmcbpkciakmeaaGreatDoorMrow
import Derived.ShutString
import Derived.ChangeOld
import Derived.Below
import Derived.Deep.Slices

/- The law TarfmtRecords: the walk: any keys and values are written as the records that the document says. -/
set_option linter.unusedVariables false
set_option linter.unusedSimpArgs false
namespace Go.Proofs.YtkmcbpkciakmeaaGreatDoor.PA
open Go.RowKit Go.Proofs.YtkmcbpkciakmeaaGreatDoorW.PrintWords Go.Proofs.YtkmcbpkciakmeaaGreatDoorW.PrintLast Go.Proofs.YtkmcbpkciakmeaaGreatDoorW.PrintMore

set_option maxHeartbeats 2000000 in
set_option maxRecDepth 100000 in
theorem law_records (A0 : Option Addr) (c0 : Nat) (xs : List KV) (w : World) (hT : Tabs w) (hr0 : Kd.C k39 w A0 xs.length xs) (hc0 : xs.length ≤ c0) (hz : ∀ x ∈ xs, x.1.size + x.2.size ≤ 4294967296) :
    Calls Tryz.prog 5 #[.slice A0 xs.length c0] w fun e w' => e = .returned (.bool true) ∧ Below w.heap.size w w' := by
  have h10 := alive_calls w hT
  have H10 := Aside0.mk h10
  by_cases hn : 60 < xs.length
  · have hni : (60 : Int) < (xs.length : Int) := by omega
    clear hr0 hz h10
    go_enter Tryz.func5, Tryz.ntmps5
    go_wp2_with (first | (go_at_call 10; refine (H10.out).mono ?_; rintro e w1 ⟨rfl, hb1⟩))
    go_ret
    exact ⟨rfl, hb1⟩
  · have hni : ¬ ((60 : Int) < (xs.length : Int)) := by omega
    have h16 : ∀ W, Below w.heap.size w W → Calls Tryz.prog 16 #[.slice A0 xs.length c0] W fun e w' => e = .returned (.string (str (recsS xs))) ∧ Below W.heap.size W w' := fun W hW => records_calls A0 c0 xs W (hT.below hW) (Kd.C_below hr0 hW) hc0 (by omega) hz
    have h17 : ∀ W, Below w.heap.size w W → Calls Tryz.prog 17 #[.slice A0 xs.length c0] W fun e w' => e = .returned (.string (str (recsS xs))) ∧ Below W.heap.size W w' := fun W hW => ref_records_calls A0 c0 xs W (Kd.C_below hr0 hW) hc0 (by omega) hz
    obtain ⟨R, hR⟩ : ∃ R, R = str (recsS xs) := ⟨_, rfl⟩
    rw [← hR] at h16 h17
    have H16 := Aside0.mk h16
    have H17 := Aside0.mk h17
    clear hr0 hz h10 h16 h17 hR hT
    go_enter Tryz.func5, Tryz.ntmps5
    go_wp2_with (first | (go_at_call 10; refine (H10.out).mono ?_; rintro e w1 ⟨rfl, hb1⟩; have B1 := Aside0.mk hb1) | (go_at_call 16; refine (H16.out _ B1.out).mono ?_; rintro e w2 ⟨rfl, hb2⟩; have B2 := Aside0.mk (below_then B1.out B1.out.size hb2)) | (go_at_call 17; refine (H17.out _ B2.out).mono ?_; rintro e w3 ⟨rfl, hb3⟩; have B3 := Aside0.mk (below_then B2.out B2.out.size hb3)))
    go_ret
    exact ⟨rfl, B3.out⟩
end Go.Proofs.YtkmcbpkciakmeaaGreatDoor.PA

/- The law TarfmtRecords, of arguments of bulk at most 1048576: its row and its card, over the walk; nothing is asked beside what the row says. -/
set_option linter.unusedVariables false
namespace Go.Proofs.YtkmcbpkciakmeaaGreatDoor.tarfmtRecords
open Go.ChangeShapes Go.WideShapes Go.ChangeAt Go.RowKit
open Go.ChangeMaps (open_string shut_string)

theorem own : ownKnob Tryz.prog.godebug = none := by kernel_rfl
theorem laidOut : laidOutB Tryz.prog = true := by kernel_rfl

set_option maxRecDepth 100000 in
theorem contract (H : Type) (enc : TypeId × Value → H) (W : World) (base : Nat) (args : Array Value) (ds gs : List (DataW H)) (before : List MemPlace)
    (hval : ∀ (j : Nat) t v, Tryz.f5.params[j]? = some t → args[j]? = some v → Value.okWide Tryz.prog W .any base t v)
    (hW : DataW.Whole enc Tryz.prog Tryz.f5.params.toList Rows.tarfmtRecordsSpec.vars false W args.toList ds gs before) (hk : Rows.uptoSmall H (ds ++ gs) = true) (hT : PA.Tabs W) :
    Calls Tryz.prog 5 args W fun e W' => ∃ v, e = .returned v ∧ Rows.tarfmtRecordsSpec.post enc Tryz.prog Tryz.f5 false true false false W args v W' := by
  have hW' := hW
  obtain ⟨p, q, hA0, hV, rfl, hfz, hnd⟩ := hW
  have hA : DataW.TrodAll enc Tryz.prog W 0 (fun _ => true) true Tryz.f5.params.toList args.toList ds p := hA0
  rw [Tryz.params5] at hA hval
  obtain ⟨v0, vs0, d0, ds0, p0, q0, hargs, rfl, rfl, h0, r0⟩ := trodAll_cons hA
  obtain ⟨rfl, rfl, rfl⟩ := trodAll_nil r0
  obtain rfl : args = #[v0] := by cases args; simp_all
  obtain ⟨rfl, rfl⟩ := trodVars_none hV
  have hbk := bulks.bound hk
  simp only [List.append_nil, Rows.uptoBulkAll] at hbk
  obtain ⟨a0, len0, cap0, rfl⟩ := okWide_slice Tryz.underlying34 (hval 0 34 v0 rfl rfl)
  have k0 := h0
  have lt0 : ∀ x ∈ p0, x.block < W.heap.size := by obtain ⟨m, hm⟩ := k0; exact DataW.trod_lt m _ _ _ hm
  obtain ⟨xs0, rfl, hc0, hC0, hz0, hn0⟩ := PA.open_kvs h0
  clear hA0
  refine (PA.law_records a0 cap0 xs0 W hT hC0 hc0 (fun x hx => by have := hz0 x hx; omega)).mono fun e W' ⟨he, bel⟩ => ?_
  subst he
  exact ⟨_, rfl, _, _, _, [], _, [], hW', trodAll_mk1 (shut_bool Tryz.underlying4 _), (trodAll_cons_mk (Below.trod laidOut (by kernel_rfl) (of_decide_eq_true (by kernel_rfl)) k0 bel lt0) trodAll_mk0), rfl, bel.frame _, fun h => by cases h⟩

noncomputable def laidWorld (os : Os) : World := World.laidAll Tryz.prog os Rows.tarfmtRecordsUptoRow.laid
theorem laid_met (os : Os) : laidMet Tryz.prog Rows.tarfmtRecordsUptoRow.laid ((laidWorld os).forCall (fun _ _ => 0) ⟨#[], #[.slice none 0 0], []⟩).memory :=
  laidMet_laidAll _ (by kernel_rfl) (by kernel_rfl)
theorem reads (os : Os) {H : Type} (enc : TypeId × Value → H) : ∃ places, DataW.whole enc Tryz.prog ((laidWorld os).forCall (fun _ _ => 0) ⟨#[], #[.slice none 0 0], []⟩).memory Tryz.f5.params.toList Rows.tarfmtRecordsSpec.vars false (#[.slice none 0 0] : Array Value).toList 8 = some ([.nil], [], places) :=
  ⟨[], by kernel_rfl⟩

set_option maxRecDepth 100000 in
theorem liftedUpto (os : Os) (started : os.Started) (H : Type) (enc : TypeId × Value → H) (F : Stop.Interp) :
    ReturnsInHanded {} Tryz.checked os 5 .any ((Rows.OpenSpec.upto Rows.tarfmtRecordsSpec).preRow enc Tryz.prog Tryz.f5 Rows.tarfmtRecordsUptoRow.domain false Rows.tarfmtRecordsUptoRow.laid) (((Rows.OpenSpec.upto Rows.tarfmtRecordsSpec).at F).post enc Tryz.prog Tryz.f5 false true false false) := by
  obtain ⟨places, hx⟩ := reads os enc
  refine returnsInHanded_of_row (C := Tryz.checked) (s := Rows.OpenSpec.upto Rows.tarfmtRecordsSpec) own started (by kernel_rfl) Tryz.func5
    (witness_row_at (enc := enc) (C := Tryz.checked) false (laidWorld os) #[.slice none 0 0] rfl (by kernel_rfl) (by kernel_rfl) (by kernel_rfl)
      (OpenSpec.preRow_of_cond 8 hx (by kernel_rfl) (fun k hk => by cases hk; kernel_rfl) (by kernel_rfl) (laid_met os))) ?_
  intro W base args ds gs before hval hW hc hcond _ hL hS _
  exact contract H enc W base args ds gs before hval hW (hcond _ rfl) (PA.tabs_of hL hS)

theorem saidUpto : Rows.TarfmtRecordsUptoSaid :=
  OpenClaim.holds_of_cond 5 Tryz.f5 rfl rfl rfl rfl rfl rfl rfl ⟨rfl, rfl, rfl, rfl, rfl⟩ rfl rfl rfl rfl rfl (by kernel_rfl) Tryz.func5 (by kernel_rfl)
    (of_decide_eq_true (by kernel_rfl)) (by unfold Func.isWrapper; first | (rw [if_pos (by decide +kernel)]; kernel_rfl) | (rw [if_neg (by decide +kernel)]; exact ⟨rfl, rfl⟩))
    (fun os started H enc _ F => by rw [OpenClaim.pre_eq_preRow]; exact liftedUpto os started H enc F)

theorem plain (f : FuncId) (fn : Func) (hf : Tryz.pinned.checked.prog.funcNamed "wainload/wainloadlaw17.TarfmtRecords" = some f) (hfn : Tryz.pinned.checked.prog.funcs[f]? = some fn) :
    false = Tryz.pinned.checked.prog.looks [] ∧ ∀ (j : Nat) t, fn.params[j]? = some t → Tryz.pinned.checked.prog.wantsStandIn t = false := by
  obtain rfl : f = 5 := Option.some.inj ((show Tryz.prog.funcNamed "wainload/wainloadlaw17.TarfmtRecords" = some 5 by kernel_rfl).symm.trans hf) |>.symm
  obtain rfl : fn = Tryz.f5 := (Option.some.inj (Tryz.func5.symm.trans hfn)).symm
  refine ⟨by kernel_rfl, fun j t ht => ?_⟩
  rw [Tryz.params5] at ht
  have hm := Array.mem_of_getElem? ht
  simp only [List.mem_toArray, List.mem_cons, List.not_mem_nil, or_false] at hm
  obtain rfl := hm
  exact (show Tryz.prog.wantsStandIn 34 = false by kernel_rfl)
theorem cardUpto : Rows.TarfmtRecordsUptoCardSaid :=
  Claim7.holds_tied_plain_at .later [] _ _ _ _ saidUpto (fun _ h => by cases h) (by kernel_rfl) (fun _ h => by cases h) tarfmtRecordsUpto_row_tie rfl ⟨rfl, rfl⟩ (by kernel_rfl) rfl plain (by kernel_rfl)
end Go.Proofs.YtkmcbpkciakmeaaGreatDoor.tarfmtRecords
namespace Go.Proofs.YtkmcbpkciakmeaaGreatDoor
/-- The card, under a short name, for the claim. -/
theorem tarfmtRecords_upto_card : Rows.TarfmtRecordsUptoCardSaid := tarfmtRecords.cardUpto
end Go.Proofs.YtkmcbpkciakmeaaGreatDoor
