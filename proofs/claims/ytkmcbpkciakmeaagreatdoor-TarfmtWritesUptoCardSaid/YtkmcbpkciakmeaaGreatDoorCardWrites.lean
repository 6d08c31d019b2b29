/- The law TarfmtWrites, of arguments of bulk at most 1048576: the walk, the row and its card; nothing is asked beside what the row says. -/
import Derived.Test.YtkmcbpkciakmeaaGreatDoorMread
import Derived.Test.YtkmcbpkciakmeaaGreatDoorMprintedb
import Derived.Test.YtkmcbpkciakmeaaGreatDoorMalive
import Derived.Test.YtkmcbpkciakmeaaGreatDoorMrefwrite
import Derived.Test.YtkmcbpkciakmeaaGreatDoorMrow
import Derived.ShutString
import Derived.ChangeOld
import Derived.Below
import Derived.Deep.Slices

/- How much entries are; are there few of them? -/
set_option linter.unusedVariables false
set_option linter.unusedSimpArgs false
namespace Go.Proofs.YtkmcbpkciakmeaaGreatDoor.PA
open Go.RowKit Go.Proofs.YtkmcbpkciakmeaaGreatDoorW.PrintWords Go.Proofs.YtkmcbpkciakmeaaGreatDoorW.PrintLast Go.Proofs.YtkmcbpkciakmeaaGreatDoorW.PrintMore

theorem sizeS_le {xs : List S44} {b : Nat} (h : ∀ x ∈ xs, x.f5.size ≤ b) : sizeS xs ≤ xs.length * b := by
  induction xs with
  | nil => simp [sizeS]
  | cons x xs ih =>
    have h1 := h x (List.mem_cons_self ..)
    have h2 := ih fun y hy => h y (List.mem_cons_of_mem _ hy)
    have h3 : sizeS (x :: xs) = x.f5.size + sizeS xs := by simp [sizeS]
    rw [h3, List.length_cons, Nat.add_mul]
    omega
theorem size_l0 (xs : List S44) (hb : sizeS xs ≤ 4611686018427387904) (hl : xs.length ≤ 4611686018427387904) : ∀ (d i k : Nat), i + d = xs.length → d < k → wainloadref16_Size.l0 k xs (sizeS (xs.take i)) i = some (sizeS xs : Int)
  | d, i, 0, _, hk => by omega
  | 0, i, k + 1, h, hk => by
    rw [wainloadref16_Size.l0, if_neg (by omega), List.take_of_length_le (by omega)]
  | d + 1, i, k + 1, h, hk => by
    have hi : i < xs.length := by omega
    have h1 := sizeS_take_le xs (i + 1)
    have h2 := sizeS_succ hi
    have hrd : rd_T44 xs (i : Int) = xs[i] := by
      show xs.getD i z44 = _
      rw [List.getD_eq_getElem?_getD, List.getElem?_eq_getElem hi]; rfl
    rw [wainloadref16_Size.l0, if_pos (by omega), if_pos (by omega), hrd, wrap64_in _ (by omega), wrap64_in _ (by omega)]
    have := size_l0 xs hb hl d (i + 1) k (by omega) (by omega)
    rw [h2] at this
    exact_mod_cast this
theorem size_f (xs : List S44) (hb : sizeS xs ≤ 4611686018427387904) (hl : xs.length ≤ 4611686018427387904) : wainloadref16_Size.f (xs.length + 1) xs = some (sizeS xs : Int) := by
  have := size_l0 xs hb hl xs.length 0 (xs.length + 1) (by omega) (by omega)
  simpa [sizeS, wainloadref16_Size.f] using this
def fewB (xs : List S44) : Bool := decide (xs.length ≤ 60) && decide (sizeS xs ≤ 100000)
theorem few_f (xs : List S44) (hz : ∀ x ∈ xs, x.f5.size ≤ 4294967296) : wainloadlaw17_few.f (xs.length + 1) xs = some (fewB xs) := by
  unfold wainloadlaw17_few.f fewB
  by_cases h : xs.length ≤ 60
  · have h1 := sizeS_le hz
    have h2 : xs.length * 4294967296 ≤ 60 * 4294967296 := Nat.mul_le_mul_right _ h
    rw [if_pos (by omega), size_f xs (by omega) (by omega), decide_eq_true h]
    simp only [Option.bind_some, Bool.true_and, Option.some.injEq, decide_eq_decide]
    omega
  · rw [if_neg (by omega), decide_eq_false h]; rfl
end Go.Proofs.YtkmcbpkciakmeaaGreatDoor.PA

/- The law TarfmtWrites: the walk: any tree is written byte for byte as the document says, or refused. -/
set_option linter.unusedVariables false
set_option linter.unusedSimpArgs false
namespace Go.Proofs.YtkmcbpkciakmeaaGreatDoor.PA
open Go.RowKit Go.Proofs.YtkmcbpkciakmeaaGreatDoorW.PrintWords Go.Proofs.YtkmcbpkciakmeaaGreatDoorW.PrintLast Go.Proofs.YtkmcbpkciakmeaaGreatDoorW.PrintMore

theorem rb_nil (w : World) : RB w (.slice none 0 0) [] := ⟨none, 0, rfl, Nat.le_refl _, by simp, fun h => absurd h (by simp)⟩

set_option maxHeartbeats 4000000 in
set_option maxRecDepth 100000 in
theorem law_writes (A0 : Option Addr) (c0 : Nat) (xs : List S44) (w : World) (hT : Tabs w) (hr0 : Kd.C k44 w A0 xs.length xs) (hc0 : xs.length ≤ c0) (hz : ∀ x ∈ xs, x.f1.size ≤ 1073741824 ∧ x.f2.size ≤ 1073741824 ∧ x.f5.size ≤ 1073741824) :
    Calls Tryz.prog 3 #[.slice A0 xs.length c0] w fun e w' => e = .returned (.bool true) ∧ Below w.heap.size w w' := by
  have h10 : ∀ W, Below w.heap.size w W → Calls Tryz.prog 10 #[] W fun e w' => e = .returned (.bool true) ∧ Below W.heap.size W w' := fun W hW => alive_calls W (hT.below hW)
  have H10 := Aside0.mk h10
  have hz2 : ∀ x ∈ xs, x.f1.size ≤ 1073741824 ∧ x.f2.size ≤ 1073741824 ∧ x.f5.size ≤ 9223372036854775807 := fun x hx => by have := hz x hx; omega
  have hz3 : ∀ x ∈ xs, x.f1.size ≤ 1073741824 ∧ x.f2.size ≤ 1073741824 := fun x hx => by have := hz x hx; omega
  have h9 : Calls Tryz.prog 9 #[.slice A0 xs.length c0] w fun e w' => e = .returned (.bool (fewB xs)) ∧ Below w.heap.size w w' := by
    refine (wainloadlaw17_few.calls _ A0 c0 xs _ w hr0 hc0 (few_f xs (fun x hx => by have := hz x hx; omega))).mono ?_
    rintro e w' ⟨rfl, nd, rfl⟩
    exact ⟨rfl, pw_below_drewN (Below.refl _ _) nd⟩
  have hC : ∀ W, Below w.heap.size w W → Kd.C k44 W A0 xs.length xs := fun W hW => Kd.C_below hr0 hW
  cases hf : fewB xs with
  | false =>
    rw [hf] at h9
    have H9 := Aside0.mk h9
    clear hr0 hz hz2 hz3 h10 h9 hf hT hC
    go_enter Tryz.func3, Tryz.ntmps3
    go_wp2_with (first | (go_at_call 9; refine (H9.out).mono ?_; rintro e w1 ⟨rfl, hb1⟩; have B1 := Aside0.mk hb1) | (go_at_call 10; refine (H10.out _ B1.out).mono ?_; rintro e w2 ⟨rfl, hb2⟩))
    go_ret
    exact ⟨rfl, below_then B1.out B1.out.size hb2⟩
  | true =>
    rw [hf] at h9
    have H9 := Aside0.mk h9
    cases hcan : canS xs with
    | false =>
      have h11 : ∀ W, Below w.heap.size w W → Calls Tryz.prog 11 #[.slice A0 xs.length c0] W fun e w' => e = .returned (.tuple #[.slice none 0 0, .bool false]) ∧ Below W.heap.size W w' := fun W hW => write_calls_no A0 c0 xs W (hT.below hW) (hC W hW) hc0 hz2 hcan
      have h12 : ∀ W, Below w.heap.size w W → Calls Tryz.prog 12 #[.slice A0 xs.length c0] W fun e w' => e = .returned (.tuple #[.slice none 0 0, .bool false]) ∧ Below W.heap.size W w' := fun W hW => ref_write_no A0 c0 xs W (hC W hW) hc0 hz3 hcan
      have H11 := Aside0.mk h11
      have H12 := Aside0.mk h12
      clear hr0 hz hz2 hz3 h10 h9 hf h11 h12 hT hC hcan
      have hcv : ∀ W, (convert 25 9 (.slice none 0 0)).run Tryz.prog W = .ok (.string (str [])) W := fun W => conv_string (rb_nil W)
      go_enter Tryz.func3, Tryz.ntmps3
      go_wp2_with (first | (go_at_call 9; refine (H9.out).mono ?_; rintro e w1 ⟨rfl, hb1⟩; have B1 := Aside0.mk hb1) | (go_at_call 11; refine (H11.out _ B1.out).mono ?_; rintro e w2 ⟨rfl, hb2⟩; have B2 := Aside0.mk (below_then B1.out B1.out.size hb2)) | (go_at_call 12; refine (H12.out _ B2.out).mono ?_; rintro e w3 ⟨rfl, hb3⟩; have B3 := Aside0.mk (below_then B2.out B2.out.size hb3)) | (go_at_call 10; refine (H10.out _ B3.out).mono ?_; rintro e w4 ⟨rfl, hb4⟩))
      go_ret
      exact ⟨rfl, below_then B3.out B3.out.size hb4⟩
    | true =>
      have h11 : ∀ W, Below w.heap.size w W → Calls Tryz.prog 11 #[.slice A0 xs.length c0] W fun e w' => ∃ v, e = .returned (.tuple #[v, .bool true]) ∧ Bin w' W.heap.size v (writeS xs) ∧ Below W.heap.size W w' := fun W hW => write_calls_yes A0 c0 xs W (hT.below hW) (hC W hW) hc0 hz2 hcan
      have h12 : ∀ W, Below w.heap.size w W → Calls Tryz.prog 12 #[.slice A0 xs.length c0] W fun e w' => ∃ v, e = .returned (.tuple #[v, .bool true]) ∧ Bin w' W.heap.size v (writeS xs) ∧ Below W.heap.size W w' := fun W hW => ref_write_yes A0 c0 xs W (hC W hW) hc0 hz3 hcan
      have H11 := Aside0.mk h11
      have H12 := Aside0.mk h12
      obtain ⟨L, hL⟩ : ∃ L, L = writeS xs := ⟨_, rfl⟩
      rw [← hL] at H11 H12
      clear hr0 hz hz2 hz3 h10 h9 hf h11 h12 hT hC hcan hL
      go_enter Tryz.func3, Tryz.ntmps3
      go_wp2_with (first | (go_at_call 9; refine (H9.out).mono ?_; rintro e w1 ⟨rfl, hb1⟩; have B1 := Aside0.mk hb1) | (go_at_call 11; refine (H11.out _ B1.out).mono ?_; rintro e w2 ⟨v2, rfl, hv2, hb2⟩; have R2 := Aside0.mk hv2.reads; have B2 := Aside0.mk (below_then B1.out B1.out.size hb2); clear hv2) | (go_at_call 12; refine (H12.out _ B2.out).mono ?_; rintro e w3 ⟨v3, rfl, hv3, hb3⟩; have R3 := Aside0.mk hv3.reads; have R23 := Aside0.mk (R2.out.below hb3); have B3 := Aside0.mk (below_then B2.out B2.out.size hb3); clear hv3) | (go_at_call 10; refine (H10.out _ B3.out).mono ?_; rintro e w4 ⟨rfl, hb4⟩; have cv2 := conv_string (R23.out.below hb4); have cv3 := conv_string (R3.out.below hb4)))
      go_ret
      exact ⟨rfl, below_then B3.out B3.out.size hb4⟩
end Go.Proofs.YtkmcbpkciakmeaaGreatDoor.PA

/- The law TarfmtWrites, of arguments of bulk at most 1048576: its row and its card, over the walk; nothing is asked beside what the row says. -/
set_option linter.unusedVariables false
namespace Go.Proofs.YtkmcbpkciakmeaaGreatDoor.tarfmtWrites
open Go.ChangeShapes Go.WideShapes Go.ChangeAt Go.RowKit
open Go.ChangeMaps (open_string shut_string)

theorem own : ownKnob Tryz.prog.godebug = none := by kernel_rfl
theorem laidOut : laidOutB Tryz.prog = true := by kernel_rfl

set_option maxRecDepth 100000 in
theorem contract (H : Type) (enc : TypeId × Value → H) (W : World) (base : Nat) (args : Array Value) (ds gs : List (DataW H)) (before : List MemPlace)
    (hval : ∀ (j : Nat) t v, Tryz.f3.params[j]? = some t → args[j]? = some v → Value.okWide Tryz.prog W .any base t v)
    (hW : DataW.Whole enc Tryz.prog Tryz.f3.params.toList Rows.tarfmtWritesSpec.vars false W args.toList ds gs before) (hk : Rows.uptoSmall H (ds ++ gs) = true) (hT : PA.Tabs W) :
    Calls Tryz.prog 3 args W fun e W' => ∃ v, e = .returned v ∧ Rows.tarfmtWritesSpec.post enc Tryz.prog Tryz.f3 false true false false W args v W' := by
  have hW' := hW
  obtain ⟨p, q, hA0, hV, rfl, hfz, hnd⟩ := hW
  have hA : DataW.TrodAll enc Tryz.prog W 0 (fun _ => true) true Tryz.f3.params.toList args.toList ds p := hA0
  rw [Tryz.params3] at hA hval
  obtain ⟨v0, vs0, d0, ds0, p0, q0, hargs, rfl, rfl, h0, r0⟩ := trodAll_cons hA
  obtain ⟨rfl, rfl, rfl⟩ := trodAll_nil r0
  obtain rfl : args = #[v0] := by cases args; simp_all
  obtain ⟨rfl, rfl⟩ := trodVars_none hV
  have hbk := bulks.bound hk
  simp only [List.append_nil, Rows.uptoBulkAll] at hbk
  obtain ⟨a0, len0, cap0, rfl⟩ := okWide_slice Tryz.underlying22 (hval 0 22 v0 rfl rfl)
  have k0 := h0
  have lt0 : ∀ x ∈ p0, x.block < W.heap.size := by obtain ⟨m, hm⟩ := k0; exact DataW.trod_lt m _ _ _ hm
  obtain ⟨xs0, rfl, hc0, hC0, hz0, hn0⟩ := PA.open_ents h0
  clear hA0
  refine (PA.law_writes a0 cap0 xs0 W hT hC0 hc0 (fun x hx => by have := hz0 x hx; omega)).mono fun e W' ⟨he, bel⟩ => ?_
  subst he
  exact ⟨_, rfl, _, _, _, [], _, [], hW', trodAll_mk1 (shut_bool Tryz.underlying4 _), (trodAll_cons_mk (Below.trod laidOut (by kernel_rfl) (of_decide_eq_true (by kernel_rfl)) k0 bel lt0) trodAll_mk0), rfl, bel.frame _, fun h => by cases h⟩

noncomputable def laidWorld (os : Os) : World := World.laidAll Tryz.prog os Rows.tarfmtWritesUptoRow.laid
theorem laid_met (os : Os) : laidMet Tryz.prog Rows.tarfmtWritesUptoRow.laid ((laidWorld os).forCall (fun _ _ => 0) ⟨#[], #[.slice none 0 0], []⟩).memory :=
  laidMet_laidAll _ (by kernel_rfl) (by kernel_rfl)
theorem reads (os : Os) {H : Type} (enc : TypeId × Value → H) : ∃ places, DataW.whole enc Tryz.prog ((laidWorld os).forCall (fun _ _ => 0) ⟨#[], #[.slice none 0 0], []⟩).memory Tryz.f3.params.toList Rows.tarfmtWritesSpec.vars false (#[.slice none 0 0] : Array Value).toList 8 = some ([.nil], [], places) :=
  ⟨[], by kernel_rfl⟩

set_option maxRecDepth 100000 in
theorem liftedUpto (os : Os) (started : os.Started) (H : Type) (enc : TypeId × Value → H) (F : Stop.Interp) :
    ReturnsInHanded {} Tryz.checked os 3 .any ((Rows.OpenSpec.upto Rows.tarfmtWritesSpec).preRow enc Tryz.prog Tryz.f3 Rows.tarfmtWritesUptoRow.domain false Rows.tarfmtWritesUptoRow.laid) (((Rows.OpenSpec.upto Rows.tarfmtWritesSpec).at F).post enc Tryz.prog Tryz.f3 false true false false) := by
  obtain ⟨places, hx⟩ := reads os enc
  refine returnsInHanded_of_row (C := Tryz.checked) (s := Rows.OpenSpec.upto Rows.tarfmtWritesSpec) own started (by kernel_rfl) Tryz.func3
    (witness_row_at (enc := enc) (C := Tryz.checked) false (laidWorld os) #[.slice none 0 0] rfl (by kernel_rfl) (by kernel_rfl) (by kernel_rfl)
      (OpenSpec.preRow_of_cond 8 hx (by kernel_rfl) (fun k hk => by cases hk; kernel_rfl) (by kernel_rfl) (laid_met os))) ?_
  intro W base args ds gs before hval hW hc hcond _ hL hS _
  exact contract H enc W base args ds gs before hval hW (hcond _ rfl) (PA.tabs_of hL hS)

theorem saidUpto : Rows.TarfmtWritesUptoSaid :=
  OpenClaim.holds_of_cond 3 Tryz.f3 rfl rfl rfl rfl rfl rfl rfl ⟨rfl, rfl, rfl, rfl, rfl⟩ rfl rfl rfl rfl rfl (by kernel_rfl) Tryz.func3 (by kernel_rfl)
    (of_decide_eq_true (by kernel_rfl)) (by unfold Func.isWrapper; first | (rw [if_pos (by decide +kernel)]; kernel_rfl) | (rw [if_neg (by decide +kernel)]; exact ⟨rfl, rfl⟩))
    (fun os started H enc _ F => by rw [OpenClaim.pre_eq_preRow]; exact liftedUpto os started H enc F)

theorem plain (f : FuncId) (fn : Func) (hf : Tryz.pinned.checked.prog.funcNamed "wainload/wainloadlaw17.TarfmtWrites" = some f) (hfn : Tryz.pinned.checked.prog.funcs[f]? = some fn) :
    false = Tryz.pinned.checked.prog.looks [] ∧ ∀ (j : Nat) t, fn.params[j]? = some t → Tryz.pinned.checked.prog.wantsStandIn t = false := by
  obtain rfl : f = 3 := Option.some.inj ((show Tryz.prog.funcNamed "wainload/wainloadlaw17.TarfmtWrites" = some 3 by kernel_rfl).symm.trans hf) |>.symm
  obtain rfl : fn = Tryz.f3 := (Option.some.inj (Tryz.func3.symm.trans hfn)).symm
  refine ⟨by kernel_rfl, fun j t ht => ?_⟩
  rw [Tryz.params3] at ht
  have hm := Array.mem_of_getElem? ht
  simp only [List.mem_toArray, List.mem_cons, List.not_mem_nil, or_false] at hm
  obtain rfl := hm
  exact (show Tryz.prog.wantsStandIn 22 = false by kernel_rfl)
theorem cardUpto : Rows.TarfmtWritesUptoCardSaid :=
  Claim7.holds_tied_plain_at .later [] _ _ _ _ saidUpto (fun _ h => by cases h) (by kernel_rfl) (fun _ h => by cases h) tarfmtWritesUpto_row_tie rfl ⟨rfl, rfl⟩ (by kernel_rfl) rfl plain (by kernel_rfl)
end Go.Proofs.YtkmcbpkciakmeaaGreatDoor.tarfmtWrites
namespace Go.Proofs.YtkmcbpkciakmeaaGreatDoor
/-- The card, under a short name, for the claim. -/
theorem tarfmtWrites_upto_card : Rows.TarfmtWritesUptoCardSaid := tarfmtWrites.cardUpto
end Go.Proofs.YtkmcbpkciakmeaaGreatDoor
