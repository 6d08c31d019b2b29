/- The law TarfmtKeys, of arguments of bulk at most 1048576: the walk, the row and its card; nothing is asked beside what the row says. -/
import Derived.Test.YtkmcbpkciakmeaaGreatDoorMstate
import Derived.Test.YtkmcbpkciakmeaaGreatDoorMalive
import Derived.Test.YtkmcbpkciakmeaaGreatDoorMrow
import Derived.ChangeKeysEq
import Derived.ShutString
import Derived.ChangeOld
import Derived.Below
import Derived.Deep.Slices

/- Two pairs of texts that are one pair are equal. -/
set_option linter.unusedVariables false
set_option linter.unusedSimpArgs false
namespace Go.Proofs.YtkmcbpkciakmeaaGreatDoor.PA
open Go.RowKit Go.Proofs.YtkmcbpkciakmeaaGreatDoorW.PrintWords Go.Proofs.YtkmcbpkciakmeaaGreatDoorW.PrintLast Go.Proofs.YtkmcbpkciakmeaaGreatDoorW.PrintMore
theorem size9 (W : World) : (sizeOf 9).run Tryz.prog W = .ok 1 W := by
  obtain ⟨i, hi⟩ : ∃ i, Tryz.prog.info? 9 = some i := by
    have h : (Tryz.prog.info? 9).isSome = true := by kernel_rfl
    exact Option.isSome_iff_exists.1 h
  have hs : i.size = 1 := by
    have : (Tryz.prog.info? 9).map (·.size) = some 1 := by kernel_rfl
    rw [hi] at this; simpa using this
  simp [sizeOf, typeInfo, hi, hs]
theorem neqA39 (d : Nat) (s0 s1 : ByteArray) (W : World) : (Op.equalIn (d + 2) 39 (.agg #[.string s0, .string s1]) (.agg #[.string s0, .string s1])).run Tryz.prog W = .ok true W := by
  have h9 : ∀ s : ByteArray, (Op.equalIn (d + 1) 9 (.string s) (.string s)).run Tryz.prog W = .ok true W := fun s => by
    have hb : (s == s) = true := by rw [beq_data]; exact beq_self_eq_true _
    simp [Op.equalIn, run_underlying Tryz.underlying9, hb]
  have hp : ∀ (a b : Value), (part 9 #[a, b] 0).run Tryz.prog W = .ok a W ∧ (part 9 #[a, b] 1).run Tryz.prog W = .ok b W := fun a b => by
    constructor <;> simp [part, size9, isAgg, run_underlying Tryz.underlying9]
  obtain ⟨i, hi⟩ : ∃ i, Tryz.prog.info? 9 = some i := by
    have h : (Tryz.prog.info? 9).isSome = true := by kernel_rfl
    exact Option.isSome_iff_exists.1 h
  rw [run_equalIn_array W (d + 1) _ _ Tryz.underlying39 hi, show Tryz.prog.cellsOf 9 = 1 by kernel_rfl, show List.range 2 = [0, 1] from rfl]
  simp [Op.eqItems, h9, hp]
end Go.Proofs.YtkmcbpkciakmeaaGreatDoor.PA

/- The law TarfmtKeys: the walk: records that were written are read as they were. -/
set_option linter.unusedVariables false
set_option linter.unusedSimpArgs false
namespace Go.Proofs.YtkmcbpkciakmeaaGreatDoor.PA
open Go.RowKit Go.Proofs.YtkmcbpkciakmeaaGreatDoorW.PrintWords Go.Proofs.YtkmcbpkciakmeaaGreatDoorW.PrintLast Go.Proofs.YtkmcbpkciakmeaaGreatDoorW.PrintMore
attribute [local go_sem high] neqA39

def keyOk (x : KV) : Prop := x.1.data.toList ≠ [] ∧ ∀ b ∈ x.1.data.toList, b ≠ 61
theorem get_data (s : ByteArray) (j : Nat) (h : j < s.size) : s.data.toList[j]? = some s[j] := by
  have : j < s.data.toList.length := h
  rw [List.getElem?_eq_getElem this]
  rfl

set_option maxHeartbeats 4000000 in
set_option maxRecDepth 100000 in
theorem law_keys (A0 : Option Addr) (c0 : Nat) (xs : List KV) (w : World) (hT : Tabs w) (hr0 : Kd.C k39 w A0 xs.length xs) (hc0 : xs.length ≤ c0) (hz : ∀ x ∈ xs, x.1.size + x.2.size ≤ 1048576) :
    Calls Tryz.prog 7 #[.slice A0 xs.length c0] w fun e w' => e = .returned (.bool true) ∧ Below w.heap.size w w' := by
  have h10 : ∀ W, Below w.heap.size w W → Calls Tryz.prog 10 #[] W fun e w' => e = .returned (.bool true) ∧ Below W.heap.size W w' := fun W hW => alive_calls W (hT.below hW)
  have H10 := Aside0.mk h10
  by_cases hn : 60 < xs.length
  · have hni : (60 : Int) < (xs.length : Int) := by omega
    clear hr0 hz h10
    go_enter Tryz.func7, Tryz.ntmps7
    go_wp2_with (first | (go_at_call 10; refine (H10.out _ (Below.refl _ _)).mono ?_; rintro e w1 ⟨rfl, hb1⟩))
    go_ret
    exact ⟨rfl, hb1⟩
  · have hni : ¬ ((60 : Int) < (xs.length : Int)) := by omega
    have HC := Aside0.mk hr0
    have HZ := Aside0.mk hz
    have HT := Aside0.mk hT
    clear hr0 hz hT h10
    go_enter Tryz.func7, Tryz.ntmps7
    go_wp2_with fail
    go_loopw [15] (fun v15 wr => ∃ k : Nat, v15 = .int .i64 k ∧ k ≤ xs.length ∧ Aside0 (∀ x ∈ xs.take k, keyOk x) ∧ Aside0 (Below w.heap.size w wr)) (fun v15 _ => xs.length - (intOf v15).toNat)
    case atStart => exact ⟨0, rfl, by omega, ⟨fun x hx => by cases hx⟩, ⟨Below.refl _ _⟩⟩
    case round =>
      obtain ⟨k, rfl, hkl, hG, hA⟩ := hrel
      by_cases hk : k < xs.length
      · obtain ⟨ad, eA, c0_, c1_⟩ := at_39 (Kd.C_below HC.out hA.out) k hk
        obtain ⟨x, hx⟩ : ∃ x, xs.getD k zKV = x := ⟨_, rfl⟩
        rw [hx] at c0_ c1_
        have HX := Aside0.mk hx
        clear hx
        subst eA
        obtain ⟨x0, x1⟩ := x
        dsimp only at c0_ c1_
        obtain ⟨W0, hW0⟩ : ∃ W0, W0 = wr.alloc (Obj.cells #[Value.string x0, Value.string x1] 39) := ⟨_, rfl⟩
        have hB0 : Below w.heap.size w W0 := by rw [hW0]; exact below_alloc hA.out _
        have hd0 : W0.cell? ⟨wr.heap.size, 0, none⟩ = some (.string x0) := by rw [hW0]; simp
        obtain ⟨wb, hwbe⟩ : ∃ wb, wb = wr.heap.size := ⟨_, rfl⟩
        rw [← hwbe] at hd0
        have HB0 := Aside0.mk hB0
        have HW0 := Aside0.mk hW0
        have HWB := Aside0.mk hwbe
        clear hB0 hW0 hwbe
        have hx0s : x0.size ≤ 1048576 := by
          have hmem : xs.getD k zKV ∈ xs := by rw [List.getD_eq_getElem?_getD, List.getElem?_eq_getElem hk]; exact List.getElem_mem hk
          have := HZ.out _ hmem
          rw [HX.out] at this
          have : x0.size + x1.size ≤ 1048576 := this
          omega
        go_wp2_with fail
        rw [← HW0.out, ← HWB.out]
        go_loopw [22] (fun v22 wi => ∃ j : Nat, v22 = .int .i64 j ∧ j ≤ x0.size ∧ Aside0 (∀ i b, i < j → x0.data.toList[i]? = some b → b ≠ 61) ∧ wi = W0) (fun v22 _ => x0.size - (intOf v22).toNat)
        case atStart => exact ⟨0, rfl, by omega, ⟨fun i b hi => by omega⟩, rfl⟩
        case round =>
          obtain ⟨j, rfl, hjl, hN, rfl⟩ := hrel
          by_cases hj : j < x0.size
          · by_cases hb : x0[j] = 61
            · have tb : ((x0[j].toNat : Int) == 61) = true := by rw [hb]; rfl
              clear hb
              go_wp2_with (first | (go_at_call 10; refine (H10.out _ HB0.out).mono ?_; rintro e w1 ⟨rfl, hb1⟩))
              go_ret
              exact ⟨rfl, below_then HB0.out HB0.out.size hb1⟩
            · have tb : ((x0[j].toNat : Int) == 61) = false := u8_eqF' hb
              have HN : Aside0 (∀ i b, i < j + 1 → x0.data.toList[i]? = some b → b ≠ 61) := ⟨fun i b hi h => by
                rcases Nat.lt_or_ge i j with h1 | h1
                · exact hN.out i b h1 h
                · obtain rfl : i = j := by omega
                  rw [get_data x0 i hj] at h
                  rw [← Option.some.inj h]; exact hb⟩
              clear hb
              go_wp2_with fail
              go_roundw
              case rel => exact ⟨j + 1, by push_cast; rfl, hj, HN, trivial⟩
              case measure => simp [intOf]; omega
          · by_cases he : x0.toList = []
            · have te : (x0.toList == []) = true := by rw [he]; rfl
              clear he
              go_wp2_with (first | (go_at_call 10; refine (H10.out _ HB0.out).mono ?_; rintro e w1 ⟨rfl, hb1⟩))
              go_ret
              exact ⟨rfl, below_then HB0.out HB0.out.size hb1⟩
            · have te : (x0.toList == []) = false := by rw [beq_eq_false_iff_ne]; exact he
              have HG : Aside0 (∀ x ∈ xs.take (k + 1), keyOk x) := ⟨fun x hx => by
                rw [take_succ_getD xs k hk, HX.out] at hx
                rcases List.mem_append.1 hx with h | h
                · exact hG.out x h
                · rw [List.mem_singleton.1 h]
                  refine ⟨by rw [← Lib.toList_data]; exact he, fun b hb => ?_⟩
                  obtain ⟨i, hi, hib⟩ := List.getElem_of_mem hb
                  have hi2 : i < x0.size := hi
                  exact hN.out i b (by omega) (by rw [List.getElem?_eq_getElem hi, hib])⟩
              clear he
              go_wp2_with fail
              go_roundw
              case rel => exact ⟨k + 1, by push_cast; rfl, hk, HG, HB0⟩
              case measure => simp [intOf]; omega
      · have hall : ∀ x ∈ xs, GoodKV x := fun x hx => by
          have h1 := hG.out
          rw [List.take_of_length_le (by omega)] at h1
          exact ⟨(h1 x hx).1, (h1 x hx).2, Nat.le_trans (HZ.out x hx) (by omega)⟩
        have hlen := recsS_le 1048576 (by omega) xs HZ.out
        have hlen2 : xs.length * (1048576 + 23) ≤ 60 * (1048576 + 23) := Nat.mul_le_mul_right _ (by omega)
        have h16 : ∀ W, Below w.heap.size w W → Calls Tryz.prog 16 #[.slice A0 xs.length c0] W fun e w' => e = .returned (.string (str (recsS xs))) ∧ Below W.heap.size W w' := fun W hW => records_calls A0 c0 xs W (HT.out.below hW) (Kd.C_below HC.out hW) hc0 (by omega) (fun x hx => Nat.le_trans (HZ.out x hx) (by omega))
        have h18 : ∀ W, Below w.heap.size w W → Calls Tryz.prog 18 #[.string (str (recsS xs))] W fun e w' => ∃ A c, e = .returned (.tuple #[.slice A xs.length c, .bool true]) ∧ xs.length ≤ c ∧ Kd.C k39 w' A xs.length xs ∧ Below W.heap.size W w' := fun W hW => by
          refine (parse_calls (str (recsS xs)) W (HT.out.below hW) (by rw [str_size]; omega)).mono ?_
          rintro e w' ⟨h, hb⟩
          rw [data_str, parseS_recs xs hall] at h
          rcases h with ⟨h, -⟩ | ⟨kvs, v, h, rfl, hR⟩
          · cases h
          · injection h with h
            subst h
            obtain ⟨A, c, rfl, hc, hC⟩ := Kd.R_reads hR
            exact ⟨A, c, rfl, hc, hC, hb⟩
        obtain ⟨R, hR⟩ : ∃ R, R = str (recsS xs) := ⟨_, rfl⟩
        rw [← hR] at h16 h18
        have H16 := Aside0.mk h16
        have H18 := Aside0.mk h18
        clear h16 h18 hR hall hlen hlen2
        go_wp2_with (first | (go_at_call 16; refine (H16.out _ hA.out).mono ?_; rintro e w2 ⟨rfl, hb2⟩; have B2 := Aside0.mk (below_then hA.out hA.out.size hb2)) | (go_at_call 18; refine (H18.out _ B2.out).mono ?_; rintro e w3 ⟨A3, c3, rfl, hc3, hC3, hb3⟩; have HC3 := Aside0.mk hC3; have B3 := Aside0.mk (below_then B2.out B2.out.size hb3); clear hC3))
        go_loopw [54] (fun v54 wx => ∃ i : Nat, v54 = .int .i64 i ∧ i ≤ xs.length ∧ Aside0 (Below w.heap.size w wx ∧ Below w3.heap.size w3 wx)) (fun v54 _ => xs.length - (intOf v54).toNat)
        case atStart => exact ⟨0, rfl, by omega, ⟨B3.out, Below.refl _ _⟩⟩
        case round =>
          obtain ⟨i, rfl, hil, hX⟩ := hrel
          by_cases hi : i < xs.length
          · obtain ⟨ad, eA, c0_, c1_⟩ := at_39 (Kd.C_below HC.out hX.out.1) i hi
            obtain ⟨ad3, eA3, d0_, d1_⟩ := at_39 (Kd.C_below HC3.out hX.out.2) i hi
            obtain ⟨x, hx⟩ : ∃ x, xs.getD i zKV = x := ⟨_, rfl⟩
            rw [hx] at c0_ c1_ d0_ d1_
            have HX := Aside0.mk hx
            clear hx
            subst eA eA3
            obtain ⟨x0, x1⟩ := x
            dsimp only at c0_ c1_ d0_ d1_
            have hi3 : (i : Int) < (xs.length : Int) := by omega
            go_wp2_with fail
            go_quiet (fail)
            have BX : Aside0 (Below w.heap.size w (wr.drewN nq) ∧ Below w3.heap.size w3 (wr.drewN nq)) := ⟨pw_below_drewN hX.out.1 nq, pw_below_drewN hX.out.2 nq⟩
            generalize wr.drewN nq = W4 at *
            go_wp2_with fail
            go_roundw
            case rel => exact ⟨i + 1, by push_cast; rfl, hi, BX⟩
            case measure => simp [intOf]; omega
          · go_wp2_with (first | (go_at_call 10; refine (H10.out _ hX.out.1).mono ?_; rintro e w5 ⟨rfl, hb5⟩))
            go_ret
            exact ⟨rfl, below_then hX.out.1 hX.out.1.size hb5⟩
end Go.Proofs.YtkmcbpkciakmeaaGreatDoor.PA

/- The law TarfmtKeys, of arguments of bulk at most 1048576: its row and its card, over the walk; nothing is asked beside what the row says. -/
set_option linter.unusedVariables false
namespace Go.Proofs.YtkmcbpkciakmeaaGreatDoor.tarfmtKeys
open Go.ChangeShapes Go.WideShapes Go.ChangeAt Go.RowKit
open Go.ChangeMaps (open_string shut_string)

theorem own : ownKnob Tryz.prog.godebug = none := by kernel_rfl
theorem laidOut : laidOutB Tryz.prog = true := by kernel_rfl

set_option maxRecDepth 100000 in
theorem contract (H : Type) (enc : TypeId × Value → H) (W : World) (base : Nat) (args : Array Value) (ds gs : List (DataW H)) (before : List MemPlace)
    (hval : ∀ (j : Nat) t v, Tryz.f7.params[j]? = some t → args[j]? = some v → Value.okWide Tryz.prog W .any base t v)
    (hW : DataW.Whole enc Tryz.prog Tryz.f7.params.toList Rows.tarfmtKeysSpec.vars false W args.toList ds gs before) (hk : Rows.uptoSmall H (ds ++ gs) = true) (hT : PA.Tabs W) :
    Calls Tryz.prog 7 args W fun e W' => ∃ v, e = .returned v ∧ Rows.tarfmtKeysSpec.post enc Tryz.prog Tryz.f7 false true false false W args v W' := by
  have hW' := hW
  obtain ⟨p, q, hA0, hV, rfl, hfz, hnd⟩ := hW
  have hA : DataW.TrodAll enc Tryz.prog W 0 (fun _ => true) true Tryz.f7.params.toList args.toList ds p := hA0
  rw [Tryz.params7] at hA hval
  obtain ⟨v0, vs0, d0, ds0, p0, q0, hargs, rfl, rfl, h0, r0⟩ := trodAll_cons hA
  obtain ⟨rfl, rfl, rfl⟩ := trodAll_nil r0
  obtain rfl : args = #[v0] := by cases args; simp_all
  obtain ⟨rfl, rfl⟩ := trodVars_none hV
  have hbk := bulks.bound hk
  simp only [List.append_nil, Rows.uptoBulkAll] at hbk
  obtain ⟨a0, len0, cap0, rfl⟩ := okWide_slice Tryz.underlying34 (hval 0 34 v0 rfl rfl)
  have k0 := h0
  have lt0 : ∀ x ∈ p0, x.block < W.heap.size := by obtain ⟨m, hm⟩ := k0; exact DataW.trod_lt m _ _ _ hm
  obtain ⟨xs0, rfl, hc0, hC0, hz0, hn0⟩ := PA.open_kvs h0
  clear hA0
  refine (PA.law_keys a0 cap0 xs0 W hT hC0 hc0 (fun x hx => by have := hz0 x hx; omega)).mono fun e W' ⟨he, bel⟩ => ?_
  subst he
  exact ⟨_, rfl, _, _, _, [], _, [], hW', trodAll_mk1 (shut_bool Tryz.underlying4 _), (trodAll_cons_mk (Below.trod laidOut (by kernel_rfl) (of_decide_eq_true (by kernel_rfl)) k0 bel lt0) trodAll_mk0), rfl, bel.frame _, fun h => by cases h⟩

noncomputable def laidWorld (os : Os) : World := World.laidAll Tryz.prog os Rows.tarfmtKeysUptoRow.laid
theorem laid_met (os : Os) : laidMet Tryz.prog Rows.tarfmtKeysUptoRow.laid ((laidWorld os).forCall (fun _ _ => 0) ⟨#[], #[.slice none 0 0], []⟩).memory :=
  laidMet_laidAll _ (by kernel_rfl) (by kernel_rfl)
theorem reads (os : Os) {H : Type} (enc : TypeId × Value → H) : ∃ places, DataW.whole enc Tryz.prog ((laidWorld os).forCall (fun _ _ => 0) ⟨#[], #[.slice none 0 0], []⟩).memory Tryz.f7.params.toList Rows.tarfmtKeysSpec.vars false (#[.slice none 0 0] : Array Value).toList 8 = some ([.nil], [], places) :=
  ⟨[], by kernel_rfl⟩

set_option maxRecDepth 100000 in
theorem liftedUpto (os : Os) (started : os.Started) (H : Type) (enc : TypeId × Value → H) (F : Stop.Interp) :
    ReturnsInHanded {} Tryz.checked os 7 .any ((Rows.OpenSpec.upto Rows.tarfmtKeysSpec).preRow enc Tryz.prog Tryz.f7 Rows.tarfmtKeysUptoRow.domain false Rows.tarfmtKeysUptoRow.laid) (((Rows.OpenSpec.upto Rows.tarfmtKeysSpec).at F).post enc Tryz.prog Tryz.f7 false true false false) := by
  obtain ⟨places, hx⟩ := reads os enc
  refine returnsInHanded_of_row (C := Tryz.checked) (s := Rows.OpenSpec.upto Rows.tarfmtKeysSpec) own started (by kernel_rfl) Tryz.func7
    (witness_row_at (enc := enc) (C := Tryz.checked) false (laidWorld os) #[.slice none 0 0] rfl (by kernel_rfl) (by kernel_rfl) (by kernel_rfl)
      (OpenSpec.preRow_of_cond 8 hx (by kernel_rfl) (fun k hk => by cases hk; kernel_rfl) (by kernel_rfl) (laid_met os))) ?_
  intro W base args ds gs before hval hW hc hcond _ hL hS _
  exact contract H enc W base args ds gs before hval hW (hcond _ rfl) (PA.tabs_of hL hS)

theorem saidUpto : Rows.TarfmtKeysUptoSaid :=
  OpenClaim.holds_of_cond 7 Tryz.f7 rfl rfl rfl rfl rfl rfl rfl ⟨rfl, rfl, rfl, rfl, rfl⟩ rfl rfl rfl rfl rfl (by kernel_rfl) Tryz.func7 (by kernel_rfl)
    (of_decide_eq_true (by kernel_rfl)) (by unfold Func.isWrapper; first | (rw [if_pos (by decide +kernel)]; kernel_rfl) | (rw [if_neg (by decide +kernel)]; exact ⟨rfl, rfl⟩))
    (fun os started H enc _ F => by rw [OpenClaim.pre_eq_preRow]; exact liftedUpto os started H enc F)

theorem plain (f : FuncId) (fn : Func) (hf : Tryz.pinned.checked.prog.funcNamed "wainload/wainloadlaw17.TarfmtKeys" = some f) (hfn : Tryz.pinned.checked.prog.funcs[f]? = some fn) :
    false = Tryz.pinned.checked.prog.looks [] ∧ ∀ (j : Nat) t, fn.params[j]? = some t → Tryz.pinned.checked.prog.wantsStandIn t = false := by
  obtain rfl : f = 7 := Option.some.inj ((show Tryz.prog.funcNamed "wainload/wainloadlaw17.TarfmtKeys" = some 7 by kernel_rfl).symm.trans hf) |>.symm
  obtain rfl : fn = Tryz.f7 := (Option.some.inj (Tryz.func7.symm.trans hfn)).symm
  refine ⟨by kernel_rfl, fun j t ht => ?_⟩
  rw [Tryz.params7] at ht
  have hm := Array.mem_of_getElem? ht
  simp only [List.mem_toArray, List.mem_cons, List.not_mem_nil, or_false] at hm
  obtain rfl := hm
  exact (show Tryz.prog.wantsStandIn 34 = false by kernel_rfl)
theorem cardUpto : Rows.TarfmtKeysUptoCardSaid :=
  Claim7.holds_tied_plain_at .later [] _ _ _ _ saidUpto (fun _ h => by cases h) (by kernel_rfl) (fun _ h => by cases h) tarfmtKeysUpto_row_tie rfl ⟨rfl, rfl⟩ (by kernel_rfl) rfl plain (by kernel_rfl)
end Go.Proofs.YtkmcbpkciakmeaaGreatDoor.tarfmtKeys
namespace Go.Proofs.YtkmcbpkciakmeaaGreatDoor
/-- The card, under a short name, for the claim. -/
theorem tarfmtKeys_upto_card : Rows.TarfmtKeysUptoCardSaid := tarfmtKeys.cardUpto
end Go.Proofs.YtkmcbpkciakmeaaGreatDoor
