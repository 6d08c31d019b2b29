/- The law TarfmtParses, of arguments of bulk at most 1048576: the walk, the row and its card; nothing is asked beside what the row says. -/
import Derived.Test.YtkmcbpkciakmeaaGreatDoorMstate
import Derived.Test.YtkmcbpkciakmeaaGreatDoorMalive
import Derived.Test.YtkmcbpkciakmeaaGreatDoorMrefparse
import Derived.Test.YtkmcbpkciakmeaaGreatDoorMrow
import Derived.ChangeKeysEq
import Derived.ShutString
import Derived.ChangeOld
import Derived.Below
import Derived.Deep.Slices

/- Two pairs of texts that are one pair are equal. -/
set_option linter.unusedVariables false
set_option linter.unusedSimpArgs false
namespace Go.Proofs.YtkmcbpkciakmeaaGreatDoor.PA
open Go.RowKit Go.Proofs.YtkmcbpkciakmeaaGreatDoorW.PrintWords Go.Proofs.YtkmcbpkciakmeaaGreatDoorW.PrintLast Go.Proofs.YtkmcbpkciakmeaaGreatDoorW.PrintMore
theorem size9 (W : World) : (sizeOf 9).run Tryz.prog W = .ok 1 W := by
  obtain ⟨i, hi⟩ : ∃ i, Tryz.prog.info? 9 = some i := by
    have h : (Tryz.prog.info? 9).isSome = true := by kernel_rfl
    exact Option.isSome_iff_exists.1 h
  have hs : i.size = 1 := by
    have : (Tryz.prog.info? 9).map (·.size) = some 1 := by kernel_rfl
    rw [hi] at this; simpa using this
  simp [sizeOf, typeInfo, hi, hs]
theorem neqA39 (d : Nat) (s0 s1 : ByteArray) (W : World) : (Op.equalIn (d + 2) 39 (.agg #[.string s0, .string s1]) (.agg #[.string s0, .string s1])).run Tryz.prog W = .ok true W := by
  have h9 : ∀ s : ByteArray, (Op.equalIn (d + 1) 9 (.string s) (.string s)).run Tryz.prog W = .ok true W := fun s => by
    have hb : (s == s) = true := by rw [beq_data]; exact beq_self_eq_true _
    simp [Op.equalIn, run_underlying Tryz.underlying9, hb]
  have hp : ∀ (a b : Value), (part 9 #[a, b] 0).run Tryz.prog W = .ok a W ∧ (part 9 #[a, b] 1).run Tryz.prog W = .ok b W := fun a b => by
    constructor <;> simp [part, size9, isAgg, run_underlying Tryz.underlying9]
  obtain ⟨i, hi⟩ : ∃ i, Tryz.prog.info? 9 = some i := by
    have h : (Tryz.prog.info? 9).isSome = true := by kernel_rfl
    exact Option.isSome_iff_exists.1 h
  rw [run_equalIn_array W (d + 1) _ _ Tryz.underlying39 hi, show Tryz.prog.cellsOf 9 = 1 by kernel_rfl, show List.range 2 = [0, 1] from rfl]
  simp [Op.eqItems, h9, hp]
end Go.Proofs.YtkmcbpkciakmeaaGreatDoor.PA

/- The law TarfmtParses: the walk: any text is read as its records, or refused. -/
set_option linter.unusedVariables false
set_option linter.unusedSimpArgs false
namespace Go.Proofs.YtkmcbpkciakmeaaGreatDoor.PA
open Go.RowKit Go.Proofs.YtkmcbpkciakmeaaGreatDoorW.PrintWords Go.Proofs.YtkmcbpkciakmeaaGreatDoorW.PrintLast Go.Proofs.YtkmcbpkciakmeaaGreatDoorW.PrintMore
attribute [local go_sem high] neqA39

set_option maxHeartbeats 4000000 in
set_option maxRecDepth 100000 in
theorem law_parses (s : ByteArray) (w : World) (hT : Tabs w) (hs : s.size ≤ 1048576) :
    Calls Tryz.prog 6 #[.string s] w fun e w' => e = .returned (.bool true) ∧ Below w.heap.size w w' := by
  have h10 : ∀ W, Below w.heap.size w W → Calls Tryz.prog 10 #[] W fun e w' => e = .returned (.bool true) ∧ Below W.heap.size W w' := fun W hW => alive_calls W (hT.below hW)
  have H10 := Aside0.mk h10
  cases hp : parseS s.data.toList with
  | none =>
    have h18 : ∀ W, Below w.heap.size w W → Calls Tryz.prog 18 #[.string s] W fun e w' => e = .returned (.tuple #[.slice none 0 0, .bool false]) ∧ Below W.heap.size W w' := fun W hW => by
      refine (parse_calls s W (hT.below hW) (by omega)).mono ?_
      rintro e w' ⟨h, hb⟩
      rw [hp] at h
      rcases h with ⟨-, rfl⟩ | ⟨kvs, v, h, -⟩
      · exact ⟨rfl, hb⟩
      · cases h
    have h19 : ∀ W, Calls Tryz.prog 19 #[.string s] W fun e w' => e = .returned (.tuple #[.slice none 0 0, .bool false]) ∧ Below W.heap.size W w' := fun W => by
      refine (ref_parse_calls s W (by omega)).mono ?_
      rintro e w' ⟨h, hb⟩
      rw [hp] at h
      rcases h with ⟨-, rfl⟩ | ⟨kvs, v, h, -⟩
      · exact ⟨rfl, hb⟩
      · cases h
    have H18 := Aside0.mk h18
    have H19 := Aside0.mk h19
    clear h10 h18 h19 hp hT
    go_enter Tryz.func6, Tryz.ntmps6
    go_wp2_with (first | (go_at_call 18; refine (H18.out _ (Below.refl _ _)).mono ?_; rintro e w1 ⟨rfl, hb1⟩; have B1 := Aside0.mk hb1) | (go_at_call 19; refine (H19.out _).mono ?_; rintro e w2 ⟨rfl, hb2⟩; have B2 := Aside0.mk (below_then B1.out B1.out.size hb2)))
    refine wp_loop_rounds 1 ?_
    rw [rounds_succ]
    go_wp2_with (first | (go_at_call 10; refine (H10.out _ B2.out).mono ?_; rintro e w3 ⟨rfl, hb3⟩))
    go_ret
    exact ⟨rfl, below_then B2.out B2.out.size hb3⟩
  | some xs =>
    have h18 : ∀ W, Below w.heap.size w W → Calls Tryz.prog 18 #[.string s] W fun e w' => ∃ A c, e = .returned (.tuple #[.slice A xs.length c, .bool true]) ∧ xs.length ≤ c ∧ Kd.C k39 w' A xs.length xs ∧ Below W.heap.size W w' := fun W hW => by
      refine (parse_calls s W (hT.below hW) (by omega)).mono ?_
      rintro e w' ⟨h, hb⟩
      rw [hp] at h
      rcases h with ⟨h, -⟩ | ⟨kvs, v, h, rfl, hR⟩
      · cases h
      · injection h with h
        subst h
        obtain ⟨A, c, rfl, hc, hC⟩ := Kd.R_reads hR
        exact ⟨A, c, rfl, hc, hC, hb⟩
    have h19 : ∀ W, Calls Tryz.prog 19 #[.string s] W fun e w' => ∃ A c, e = .returned (.tuple #[.slice A xs.length c, .bool true]) ∧ xs.length ≤ c ∧ Kd.C k39 w' A xs.length xs ∧ Below W.heap.size W w' := fun W => by
      refine (ref_parse_calls s W (by omega)).mono ?_
      rintro e w' ⟨h, hb⟩
      rw [hp] at h
      rcases h with ⟨h, -⟩ | ⟨kvs, v, h, rfl, hR⟩
      · cases h
      · injection h with h
        subst h
        obtain ⟨A, c, rfl, hc, hC⟩ := Kd.R_reads hR
        exact ⟨A, c, rfl, hc, hC, hb⟩
    have hxl : xs.length ≤ 9223372036854775806 := by
      have := parseGo_len s.data.toList.length s.data.toList xs hp
      rw [data_length] at this
      omega
    have H18 := Aside0.mk h18
    have H19 := Aside0.mk h19
    clear h10 h18 h19 hp hT
    go_enter Tryz.func6, Tryz.ntmps6
    go_wp2_with (first | (go_at_call 18; refine (H18.out _ (Below.refl _ _)).mono ?_; rintro e w1 ⟨A1, c1, rfl, hc1, hC1, hb1⟩; have B1 := Aside0.mk hb1; have HC1 := Aside0.mk hC1; clear hC1) | (go_at_call 19; refine (H19.out _).mono ?_; rintro e w2 ⟨A2, c2, rfl, hc2, hC2, hb2⟩; have B2 := Aside0.mk (below_then B1.out B1.out.size hb2); have HC2 := Aside0.mk hC2; have HC1' := Aside0.mk (Kd.C_below HC1.out hb2); clear hC2))
    go_loopw [30] (fun v30 wx => ∃ i : Nat, v30 = .int .i64 i ∧ i ≤ xs.length ∧ Aside0 (Below w.heap.size w wx ∧ Below w2.heap.size w2 wx)) (fun v30 _ => xs.length - (intOf v30).toNat)
    case atStart => exact ⟨0, rfl, by omega, ⟨B2.out, Below.refl _ _⟩⟩
    case round =>
      obtain ⟨i, rfl, hil, hX⟩ := hrel
      by_cases hi : i < xs.length
      · obtain ⟨ad, eA, c0_, c1_⟩ := at_39 (Kd.C_below HC1'.out hX.out.2) i hi
        obtain ⟨ad3, eA3, d0_, d1_⟩ := at_39 (Kd.C_below HC2.out hX.out.2) i hi
        obtain ⟨x, hx⟩ : ∃ x, xs.getD i zKV = x := ⟨_, rfl⟩
        rw [hx] at c0_ c1_ d0_ d1_
        have HX := Aside0.mk hx
        clear hx
        subst eA eA3
        obtain ⟨x0, x1⟩ := x
        dsimp only at c0_ c1_ d0_ d1_
        have hi3 : (i : Int) < (xs.length : Int) := by omega
        go_wp2_with fail
        go_quiet (fail)
        have BX : Aside0 (Below w.heap.size w (wr.drewN nq) ∧ Below w2.heap.size w2 (wr.drewN nq)) := ⟨pw_below_drewN hX.out.1 nq, pw_below_drewN hX.out.2 nq⟩
        generalize wr.drewN nq = W4 at *
        go_wp2_with fail
        go_roundw
        case rel => exact ⟨i + 1, by push_cast; rfl, hi, BX⟩
        case measure => simp [intOf]; omega
      · go_wp2_with (first | (go_at_call 10; refine (H10.out _ hX.out.1).mono ?_; rintro e w5 ⟨rfl, hb5⟩))
        go_ret
        exact ⟨rfl, below_then hX.out.1 hX.out.1.size hb5⟩
end Go.Proofs.YtkmcbpkciakmeaaGreatDoor.PA

/- The law TarfmtParses, of arguments of bulk at most 1048576: its row and its card, over the walk; nothing is asked beside what the row says. -/
set_option linter.unusedVariables false
namespace Go.Proofs.YtkmcbpkciakmeaaGreatDoor.tarfmtParses
open Go.ChangeShapes Go.WideShapes Go.ChangeAt Go.RowKit
open Go.ChangeMaps (open_string shut_string)

theorem own : ownKnob Tryz.prog.godebug = none := by kernel_rfl
theorem laidOut : laidOutB Tryz.prog = true := by kernel_rfl

set_option maxRecDepth 100000 in
theorem contract (H : Type) (enc : TypeId × Value → H) (W : World) (base : Nat) (args : Array Value) (ds gs : List (DataW H)) (before : List MemPlace)
    (hval : ∀ (j : Nat) t v, Tryz.f6.params[j]? = some t → args[j]? = some v → Value.okWide Tryz.prog W .any base t v)
    (hW : DataW.Whole enc Tryz.prog Tryz.f6.params.toList Rows.tarfmtParsesSpec.vars false W args.toList ds gs before) (hk : Rows.uptoSmall H (ds ++ gs) = true) (hT : PA.Tabs W) :
    Calls Tryz.prog 6 args W fun e W' => ∃ v, e = .returned v ∧ Rows.tarfmtParsesSpec.post enc Tryz.prog Tryz.f6 false true false false W args v W' := by
  have hW' := hW
  obtain ⟨p, q, hA0, hV, rfl, hfz, hnd⟩ := hW
  have hA : DataW.TrodAll enc Tryz.prog W 0 (fun _ => true) true Tryz.f6.params.toList args.toList ds p := hA0
  rw [Tryz.params6] at hA hval
  obtain ⟨v0, vs0, d0, ds0, p0, q0, hargs, rfl, rfl, h0, r0⟩ := trodAll_cons hA
  obtain ⟨rfl, rfl, rfl⟩ := trodAll_nil r0
  obtain rfl : args = #[v0] := by cases args; simp_all
  obtain ⟨rfl, rfl⟩ := trodVars_none hV
  have hbk := bulks.bound hk
  simp only [List.append_nil, Rows.uptoBulkAll] at hbk
  obtain ⟨a0, rfl, rfl, rfl, y0⟩ := open_string Tryz.underlying9 (hval 0 9 v0 rfl rfl) h0
  rw [bulks.string_eq] at hbk
  have z0 : a0.size ≤ 1048576 := by
    have : a0.data.toList.length = a0.size := rfl
    omega
  clear hA0
  refine (PA.law_parses a0 W hT z0).mono fun e W' ⟨he, bel⟩ => ?_
  subst he
  exact ⟨_, rfl, _, _, _, [], _, [], hW', trodAll_mk1 (shut_bool Tryz.underlying4 _), (trodAll_cons_mk (shut_string Tryz.underlying9 y0) trodAll_mk0), rfl, bel.frame _, fun h => by cases h⟩

noncomputable def laidWorld (os : Os) : World := World.laidAll Tryz.prog os Rows.tarfmtParsesUptoRow.laid
theorem laid_met (os : Os) : laidMet Tryz.prog Rows.tarfmtParsesUptoRow.laid ((laidWorld os).forCall (fun _ _ => 0) ⟨#[], #[.string ByteArray.empty], []⟩).memory :=
  laidMet_laidAll _ (by kernel_rfl) (by kernel_rfl)
theorem reads (os : Os) {H : Type} (enc : TypeId × Value → H) : ∃ places, DataW.whole enc Tryz.prog ((laidWorld os).forCall (fun _ _ => 0) ⟨#[], #[.string ByteArray.empty], []⟩).memory Tryz.f6.params.toList Rows.tarfmtParsesSpec.vars false (#[.string ByteArray.empty] : Array Value).toList 8 = some ([.lit (.string [])], [], places) :=
  ⟨[], by kernel_rfl⟩

set_option maxRecDepth 100000 in
theorem liftedUpto (os : Os) (started : os.Started) (H : Type) (enc : TypeId × Value → H) (F : Stop.Interp) :
    ReturnsInHanded {} Tryz.checked os 6 .any ((Rows.OpenSpec.upto Rows.tarfmtParsesSpec).preRow enc Tryz.prog Tryz.f6 Rows.tarfmtParsesUptoRow.domain false Rows.tarfmtParsesUptoRow.laid) (((Rows.OpenSpec.upto Rows.tarfmtParsesSpec).at F).post enc Tryz.prog Tryz.f6 false true false false) := by
  obtain ⟨places, hx⟩ := reads os enc
  refine returnsInHanded_of_row (C := Tryz.checked) (s := Rows.OpenSpec.upto Rows.tarfmtParsesSpec) own started (by kernel_rfl) Tryz.func6
    (witness_row_at (enc := enc) (C := Tryz.checked) false (laidWorld os) #[.string ByteArray.empty] rfl (by kernel_rfl) (by kernel_rfl) (by kernel_rfl)
      (OpenSpec.preRow_of_cond 8 hx (by kernel_rfl) (fun k hk => by cases hk; kernel_rfl) (by kernel_rfl) (laid_met os))) ?_
  intro W base args ds gs before hval hW hc hcond _ hL hS _
  exact contract H enc W base args ds gs before hval hW (hcond _ rfl) (PA.tabs_of hL hS)

theorem saidUpto : Rows.TarfmtParsesUptoSaid :=
  OpenClaim.holds_of_cond 6 Tryz.f6 rfl rfl rfl rfl rfl rfl rfl ⟨rfl, rfl, rfl, rfl, rfl⟩ rfl rfl rfl rfl rfl (by kernel_rfl) Tryz.func6 (by kernel_rfl)
    (of_decide_eq_true (by kernel_rfl)) (by unfold Func.isWrapper; first | (rw [if_pos (by decide +kernel)]; kernel_rfl) | (rw [if_neg (by decide +kernel)]; exact ⟨rfl, rfl⟩))
    (fun os started H enc _ F => by rw [OpenClaim.pre_eq_preRow]; exact liftedUpto os started H enc F)

theorem plain (f : FuncId) (fn : Func) (hf : Tryz.pinned.checked.prog.funcNamed "wainload/wainloadlaw17.TarfmtParses" = some f) (hfn : Tryz.pinned.checked.prog.funcs[f]? = some fn) :
    false = Tryz.pinned.checked.prog.looks [] ∧ ∀ (j : Nat) t, fn.params[j]? = some t → Tryz.pinned.checked.prog.wantsStandIn t = false := by
  obtain rfl : f = 6 := Option.some.inj ((show Tryz.prog.funcNamed "wainload/wainloadlaw17.TarfmtParses" = some 6 by kernel_rfl).symm.trans hf) |>.symm
  obtain rfl : fn = Tryz.f6 := (Option.some.inj (Tryz.func6.symm.trans hfn)).symm
  refine ⟨by kernel_rfl, fun j t ht => ?_⟩
  rw [Tryz.params6] at ht
  have hm := Array.mem_of_getElem? ht
  simp only [List.mem_toArray, List.mem_cons, List.not_mem_nil, or_false] at hm
  obtain rfl := hm
  exact (show Tryz.prog.wantsStandIn 9 = false by kernel_rfl)
theorem cardUpto : Rows.TarfmtParsesUptoCardSaid :=
  Claim7.holds_tied_plain_at .later [] _ _ _ _ saidUpto (fun _ h => by cases h) (by kernel_rfl) (fun _ h => by cases h) tarfmtParsesUpto_row_tie rfl ⟨rfl, rfl⟩ (by kernel_rfl) rfl plain (by kernel_rfl)
end Go.Proofs.YtkmcbpkciakmeaaGreatDoor.tarfmtParses
namespace Go.Proofs.YtkmcbpkciakmeaaGreatDoor
/-- The card, under a short name, for the claim. -/
theorem tarfmtParses_upto_card : Rows.TarfmtParsesUptoCardSaid := tarfmtParses.cardUpto
end Go.Proofs.YtkmcbpkciakmeaaGreatDoor
