/- The law TarfmtBack, of arguments of bulk at most 1048576: the walk, the row and its card; nothing is asked beside what the row says. -/
import Derived.Test.YtkmcbpkciakmeaaGreatDoorMread
import Derived.Test.YtkmcbpkciakmeaaGreatDoorMsort
import Derived.Test.YtkmcbpkciakmeaaGreatDoorMprintedb
import Derived.Test.YtkmcbpkciakmeaaGreatDoorMprinted
import Derived.Test.YtkmcbpkciakmeaaGreatDoorMalive
import Derived.Test.YtkmcbpkciakmeaaGreatDoorMfields
import Derived.Test.YtkmcbpkciakmeaaGreatDoorMrow
import Derived.ShutString
import Derived.ChangeOld
import Derived.Below
import Derived.Deep.Slices

/- What the law TarfmtBack asks of plain lists: the size, the same, the order, the first entry that a limit stops. -/
set_option linter.unusedVariables false
set_option linter.unusedSimpArgs false
namespace Go.Proofs.YtkmcbpkciakmeaaGreatDoor.PA
open Go.RowKit Go.Proofs.YtkmcbpkciakmeaaGreatDoorW.PrintWords Go.Proofs.YtkmcbpkciakmeaaGreatDoorW.PrintLast Go.Proofs.YtkmcbpkciakmeaaGreatDoorW.PrintMore

theorem sizeS_le {xs : List S44} {b : Nat} (h : ∀ x ∈ xs, x.f5.size ≤ b) : sizeS xs ≤ xs.length * b := by
  induction xs with
  | nil => simp [sizeS]
  | cons x xs ih =>
    have h1 := h x (List.mem_cons_self ..)
    have h2 := ih fun y hy => h y (List.mem_cons_of_mem _ hy)
    have h3 : sizeS (x :: xs) = x.f5.size + sizeS xs := by simp [sizeS]
    rw [h3, List.length_cons, Nat.add_mul]
    omega
theorem size_l0 (xs : List S44) (hb : sizeS xs ≤ 4611686018427387904) (hl : xs.length ≤ 4611686018427387904) : ∀ (d i k : Nat), i + d = xs.length → d < k → wainloadref16_Size.l0 k xs (sizeS (xs.take i)) i = some (sizeS xs : Int)
  | d, i, 0, _, hk => by omega
  | 0, i, k + 1, h, hk => by
    rw [wainloadref16_Size.l0, if_neg (by omega), List.take_of_length_le (by omega)]
  | d + 1, i, k + 1, h, hk => by
    have hi : i < xs.length := by omega
    have h1 := sizeS_take_le xs (i + 1)
    have h2 := sizeS_succ hi
    have hrd : rd_T44 xs (i : Int) = xs[i] := by
      show xs.getD i z44 = _
      rw [List.getD_eq_getElem?_getD, List.getElem?_eq_getElem hi]; rfl
    rw [wainloadref16_Size.l0, if_pos (by omega), if_pos (by omega), hrd, wrap64_in _ (by omega), wrap64_in _ (by omega)]
    have := size_l0 xs hb hl d (i + 1) k (by omega) (by omega)
    rw [h2] at this
    exact_mod_cast this
theorem size_f (xs : List S44) (hb : sizeS xs ≤ 4611686018427387904) (hl : xs.length ≤ 4611686018427387904) : wainloadref16_Size.f (xs.length + 1) xs = some (sizeS xs : Int) := by
  have := size_l0 xs hb hl xs.length 0 (xs.length + 1) (by omega) (by omega)
  simpa [sizeS, wainloadref16_Size.f] using this
def fewB (xs : List S44) : Bool := decide (xs.length ≤ 60) && decide (sizeS xs ≤ 100000)
theorem few_f (xs : List S44) (hz : ∀ x ∈ xs, x.f5.size ≤ 4294967296) : wainloadlaw17_few.f (xs.length + 1) xs = some (fewB xs) := by
  unfold wainloadlaw17_few.f fewB
  by_cases h : xs.length ≤ 60
  · have h1 := sizeS_le hz
    have h2 : xs.length * 4294967296 ≤ 60 * 4294967296 := Nat.mul_le_mul_right _ h
    rw [if_pos (by omega), size_f xs (by omega) (by omega), decide_eq_true h]
    simp only [Option.bind_some, Bool.true_and, Option.some.injEq, decide_eq_decide]
    omega
  · rw [if_neg (by omega), decide_eq_false h]; rfl
theorem same_l0 (xs : List S44) (hl : xs.length ≤ 4611686018427387904) : ∀ (d i k : Nat), i + d = xs.length → d < k → wainloadref16_Same.l0 k xs xs i = some true
  | d, i, 0, _, hk => by omega
  | 0, i, k + 1, h, hk => by rw [wainloadref16_Same.l0, if_neg (by omega)]
  | d + 1, i, k + 1, h, hk => by
    have := same_l0 xs hl d (i + 1) k (by omega) (by omega)
    rw [wainloadref16_Same.l0, if_pos (by omega), if_pos (by omega), if_pos (by omega), wrap64_in _ (by omega), if_neg (by simp)]
    exact_mod_cast this
theorem same_f (xs : List S44) (hl : xs.length ≤ 4611686018427387904) : wainloadref16_Same.f (xs.length + 1) xs xs = some true := by
  unfold wainloadref16_Same.f
  rw [if_pos rfl]
  exact_mod_cast same_l0 xs hl xs.length 0 (xs.length + 1) (by omega) (by omega)
theorem canS_check {xs : List S44} (h : canS xs = true) : checkS xs = 0 := by
  unfold canS at h
  simp only [Bool.and_eq_true, decide_eq_true_eq] at h
  exact h.1
theorem rises_inOrder {xs : List S44} (h : Rises xs) : InOrder xs := fun i j hj hi => Int.le_of_lt (cmpS_pos.2 (h j i hj hi))
theorem check_rises {xs : List S44} (h : checkS xs = 0) : Rises xs := rises_of_steps fun i hi => checkAt_rises ((checkS_zero h).2 (i + 1) hi)
theorem lim_all {xs : List S44} {most ents : Int} (h1 : (sizeS xs : Int) ≤ most) (h2 : (xs.length : Int) ≤ ents) : Lim xs most ents xs.length := fun k hk => ⟨by omega, by have := sizeS_take_le xs (k + 1); omega⟩
/-- The first entry that stops. -/
theorem first_over (xs : List S44) (most ents : Int) (P : ∃ k < xs.length, ents ≤ (k : Int) ∨ most < (sizeS (xs.take (k + 1)) : Int)) : ∃ K < xs.length, Lim xs most ents K ∧ (ents ≤ (K : Int) ∨ most < (sizeS (xs.take (K + 1)) : Int)) := by
  obtain ⟨k, hk, h⟩ := P
  induction k using Nat.strongRecOn with
  | ind k ih =>
    by_cases hf : ∃ j < k, ents ≤ (j : Int) ∨ most < (sizeS (xs.take (j + 1)) : Int)
    · obtain ⟨j, hj, hh⟩ := hf
      exact ih j hj (by omega) hh
    · refine ⟨k, hk, fun j hj => ?_, h⟩
      have hn : ¬ (ents ≤ (j : Int) ∨ most < (sizeS (xs.take (j + 1)) : Int)) := fun hh => hf ⟨j, hj, hh⟩
      omega
/-- Read of what is written, with the limits that it needs. -/
theorem read_full (v : Value) (xs : List S44) (more : Bytes) (w : World) (hT : Tabs w) (hv : RB w v (writeS xs ++ more)) (hcan : canS xs = true) (hl : xs.length ≤ 60) (hs : sizeS xs ≤ 100000) (most ents : Int) (hm : (sizeS xs : Int) ≤ most) (he : (xs.length : Int) ≤ ents) (hm2 : most ≤ 4611686018427387904) :
    Calls Tryz.prog 14 #[v, .int .i64 most, .int .i64 ents] w fun e w' => ∃ A c, e = .returned (.tuple #[.slice A xs.length c, .int .i64 0]) ∧ xs.length ≤ c ∧ Kd.C k44 w' A xs.length xs ∧ Below w.heap.size w w' := by
  have hck := canS_check hcan
  have hf := (can_fine hcan).2
  have hv' : RB w v (bodyS xs ++ (zeros 1024 ++ more)) := by unfold writeS at hv; rw [List.append_assoc] at hv; exact hv
  refine (read_calls v xs xs more most ents w hT hv' hf (by omega) (lim_all hm he) hm2 (fun W A c hW hC hc => sort_calls A c xs W hC hc (by omega) (rises_inOrder (check_rises hck))) (fun x hx => by have := hf x hx; have := this.path; have := (hf x hx).link; have := (hf x hx).data; omega)).mono ?_
  rintro e w' ⟨h, hb⟩
  rw [if_pos hck] at h
  obtain ⟨A, c, rfl, hc, hC⟩ := h
  exact ⟨A, c, rfl, hc, hC, hb⟩
/-- With a limit that does not suffice, where there is an entry. -/
theorem read_less (v : Value) (xs : List S44) (w : World) (hT : Tabs w) (hv : RB w v (writeS xs)) (hcan : canS xs = true) (most ents : Int) (hm2 : most ≤ 4611686018427387904) (hlt : 0 < xs.length) (h : most < (sizeS xs : Int) ∨ ents < (xs.length : Int)) :
    Calls Tryz.prog 14 #[v, .int .i64 most, .int .i64 ents] w fun e w' => e = .returned (.tuple #[.slice none 0 0, .int .i64 162]) ∧ Below w.heap.size w w' := by
  obtain ⟨h1, hf⟩ := can_fine hcan
  have hv' : RB w v (bodyS xs ++ (zeros 1024 ++ [])) := by unfold writeS at hv; rw [List.append_nil]; exact hv
  obtain ⟨K, hK, hlim, hov⟩ := first_over xs most ents ⟨xs.length - 1, by omega, by
    rw [show xs.length - 1 + 1 = xs.length by omega, List.take_of_length_le (Nat.le_refl _)]
    omega⟩
  exact read_over v xs [] most ents w hT hv' hf h1 K hK hlim hov hm2
end Go.Proofs.YtkmcbpkciakmeaaGreatDoor.PA

/- The law TarfmtBack: the walk: a tree that was written is read as it was, with just the limits that it needs; with less it is refused. -/
set_option linter.unusedVariables false
set_option linter.unusedSimpArgs false
namespace Go.Proofs.YtkmcbpkciakmeaaGreatDoor.PA
open Go.RowKit Go.Proofs.YtkmcbpkciakmeaaGreatDoorW.PrintWords Go.Proofs.YtkmcbpkciakmeaaGreatDoorW.PrintLast Go.Proofs.YtkmcbpkciakmeaaGreatDoorW.PrintMore

/-- Of no entries, any limits do. -/
theorem read_nil (v : Value) (xs : List S44) (w : World) (hT : Tabs w) (hv : RB w v (writeS xs)) (h0 : xs.length = 0) (most ents : Int) (hm2 : most ≤ 4611686018427387904) :
    Calls Tryz.prog 14 #[v, .int .i64 most, .int .i64 ents] w fun e w' => ∃ A c, e = .returned (.tuple #[.slice A xs.length c, .int .i64 0]) ∧ xs.length ≤ c ∧ Kd.C k44 w' A xs.length xs ∧ Below w.heap.size w w' := by
  obtain rfl := List.eq_nil_of_length_eq_zero h0
  have hck : checkS ([] : List S44) = 0 := rfl
  have hv' : RB w v (bodyS [] ++ (zeros 1024 ++ [])) := by unfold writeS at hv; rw [List.append_nil]; exact hv
  refine (read_calls v [] [] [] most ents w hT hv' (fun x hx => by cases hx) (by simp) (fun k hk => absurd hk (by simp)) hm2 (fun W A c hW hC hc => sort_calls A c [] W hC hc (by simp) (fun i j h1 h2 => absurd h2 (by simp))) (fun x hx => by cases hx)).mono ?_
  rintro e w' ⟨h, hb⟩
  rw [if_pos hck] at h
  obtain ⟨A, c, rfl, hc, hC⟩ := h
  exact ⟨A, c, rfl, hc, hC, hb⟩

set_option maxHeartbeats 4000000 in
set_option maxRecDepth 100000 in
theorem law_back (A0 : Option Addr) (c0 : Nat) (xs : List S44) (vm : Value) (more : Bytes) (w : World) (hT : Tabs w) (hr0 : Kd.C k44 w A0 xs.length xs) (hc0 : xs.length ≤ c0) (hz : ∀ x ∈ xs, x.f1.size ≤ 1073741824 ∧ x.f2.size ≤ 1073741824 ∧ x.f5.size ≤ 1073741824) (hm : RB w vm more) (hml : more.length ≤ 1073741824) :
    Calls Tryz.prog 4 #[.slice A0 xs.length c0, vm] w fun e w' => e = .returned (.bool true) ∧ Below w.heap.size w w' := by
  have h10 : ∀ W, Below w.heap.size w W → Calls Tryz.prog 10 #[] W fun e w' => e = .returned (.bool true) ∧ Below W.heap.size W w' := fun W hW => alive_calls W (hT.below hW)
  have H10 := Aside0.mk h10
  have hz2 : ∀ x ∈ xs, x.f1.size ≤ 1073741824 ∧ x.f2.size ≤ 1073741824 ∧ x.f5.size ≤ 9223372036854775807 := fun x hx => by have := hz x hx; omega
  have h9 : Calls Tryz.prog 9 #[.slice A0 xs.length c0] w fun e w' => e = .returned (.bool (fewB xs)) ∧ Below w.heap.size w w' := by
    refine (wainloadlaw17_few.calls _ A0 c0 xs _ w hr0 hc0 (few_f xs (fun x hx => by have := hz x hx; omega))).mono ?_
    rintro e w' ⟨rfl, nd, rfl⟩
    exact ⟨rfl, pw_below_drewN (Below.refl _ _) nd⟩
  have hC : ∀ W, Below w.heap.size w W → Kd.C k44 W A0 xs.length xs := fun W hW => Kd.C_below hr0 hW
  have HC := Aside0.mk hC
  have HM := Aside0.mk hm
  have HT := Aside0.mk hT
  cases hf : fewB xs with
  | false =>
    rw [hf] at h9
    have H9 := Aside0.mk h9
    clear hr0 hz hz2 h10 h9 hf hm hT hC
    go_enter Tryz.func4, Tryz.ntmps4
    go_wp2_with (first | (go_at_call 9; refine (H9.out).mono ?_; rintro e w1 ⟨rfl, hb1⟩; have B1 := Aside0.mk hb1) | (go_at_call 10; refine (H10.out _ B1.out).mono ?_; rintro e w2 ⟨rfl, hb2⟩))
    go_ret
    exact ⟨rfl, below_then B1.out B1.out.size hb2⟩
  | true =>
    rw [hf] at h9
    have H9 := Aside0.mk h9
    unfold fewB at hf
    simp only [Bool.and_eq_true, decide_eq_true_eq] at hf
    obtain ⟨hl, hsz⟩ := hf
    cases hcan : canS xs with
    | false =>
      have h11 : ∀ W, Below w.heap.size w W → Calls Tryz.prog 11 #[.slice A0 xs.length c0] W fun e w' => e = .returned (.tuple #[.slice none 0 0, .bool false]) ∧ Below W.heap.size W w' := fun W hW => write_calls_no A0 c0 xs W (hT.below hW) (hC W hW) hc0 hz2 hcan
      have H11 := Aside0.mk h11
      clear hr0 hz hz2 h10 h9 h11 hm hT hC hcan
      go_enter Tryz.func4, Tryz.ntmps4
      go_wp2_with (first | (go_at_call 9; refine (H9.out).mono ?_; rintro e w1 ⟨rfl, hb1⟩; have B1 := Aside0.mk hb1) | (go_at_call 11; refine (H11.out _ B1.out).mono ?_; rintro e w2 ⟨rfl, hb2⟩; have B2 := Aside0.mk (below_then B1.out B1.out.size hb2)) | (go_at_call 10; refine (H10.out _ B2.out).mono ?_; rintro e w3 ⟨rfl, hb3⟩))
      go_ret
      exact ⟨rfl, below_then B2.out B2.out.size hb3⟩
    | true =>
      have h11 : ∀ W, Below w.heap.size w W → Calls Tryz.prog 11 #[.slice A0 xs.length c0] W fun e w' => ∃ v, e = .returned (.tuple #[v, .bool true]) ∧ Bin w' W.heap.size v (writeS xs) ∧ Below W.heap.size W w' := fun W hW => write_calls_yes A0 c0 xs W (hT.below hW) (hC W hW) hc0 hz2 hcan
      have h13 : ∀ W, Below w.heap.size w W → Calls Tryz.prog 13 #[.slice A0 xs.length c0] W fun e w' => e = .returned (.int .i64 (sizeS xs)) ∧ Below W.heap.size W w' := fun W hW => by
        refine (wainloadref16_Size.calls _ A0 c0 xs _ W (hC W hW) hc0 (size_f xs (by omega) (by omega))).mono ?_
        rintro e w' ⟨rfl, nd, rfl⟩
        exact ⟨rfl, pw_below_drewN (Below.refl _ _) nd⟩
      have hlw : (writeS xs).length ≤ 1060000000 + 1024 := by
        have := bodyS_len xs (can_fine hcan).2
        unfold writeS
        rw [List.length_append, List.length_replicate]
        have h2 : xs.length * 1060000 ≤ 1000 * 1060000 := Nat.mul_le_mul_right _ (by omega)
        omega
      obtain ⟨n, hn⟩ : ∃ n, n = sizeS xs := ⟨_, rfl⟩
      rw [← hn] at h13
      have h14 : ∀ W v, Below w.heap.size w W → RB W v (writeS xs ++ more) → Calls Tryz.prog 14 #[v, .int .i64 n, .int .i64 xs.length] W fun e w' => ∃ A c, e = .returned (.tuple #[.slice A xs.length c, .int .i64 0]) ∧ xs.length ≤ c ∧ Kd.C k44 w' A xs.length xs ∧ Below W.heap.size W w' := fun W v hW hv => read_full v xs more W (hT.below hW) hv hcan hl hsz n xs.length (by omega) (by omega) (by omega)
      by_cases hp : 0 < xs.length
      · have hp1 : ¬ xs.length = 0 := by omega
        have h14a : ∀ W v, Below w.heap.size w W → RB W v (writeS xs) → Calls Tryz.prog 14 #[v, .int .i64 (wrap64 ((n : Int) - 1)), .int .i64 xs.length] W fun e w' => e = .returned (.tuple #[.slice none 0 0, .int .i64 162]) ∧ Below W.heap.size W w' := fun W v hW hv => by rw [wrap64_in _ (by omega)]; exact read_less v xs W (hT.below hW) hv hcan _ _ (by omega) hp (.inl (by omega))
        have h14b : ∀ W v, Below w.heap.size w W → RB W v (writeS xs) → Calls Tryz.prog 14 #[v, .int .i64 n, .int .i64 (wrap64 ((xs.length : Int) - 1))] W fun e w' => e = .returned (.tuple #[.slice none 0 0, .int .i64 162]) ∧ Below W.heap.size W w' := fun W v hW hv => by rw [wrap64_in _ (by omega)]; exact read_less v xs W (hT.below hW) hv hcan _ _ (by omega) hp (.inr (by omega))
        have h15 : ∀ W A c, Below w.heap.size w W → Kd.C k44 W A xs.length xs → xs.length ≤ c → Calls Tryz.prog 15 #[.slice A0 xs.length c0, .slice A xs.length c] W fun e w' => e = .returned (.bool true) ∧ Below W.heap.size W w' := fun W A c hW hA hc => by
          refine (wainloadref16_Same.calls _ A0 c0 xs A c xs true W (hC W hW) hc0 hA hc (same_f xs (by omega))).mono ?_
          rintro e w' ⟨rfl, nd, rfl⟩
          exact ⟨rfl, pw_below_drewN (Below.refl _ _) nd⟩
        have H11 := Aside0.mk h11
        have H13 := Aside0.mk h13
        have H14 := Aside0.mk h14
        have H14a := Aside0.mk h14a
        have H14b := Aside0.mk h14b
        have H15 := Aside0.mk h15
        have HN : Aside0 (n ≤ 100000 ∧ xs.length ≤ 60) := ⟨by omega, hl⟩
        have HLW := Aside0.mk hlw
        have HML := Aside0.mk hml
        clear hr0 hz hz2 h10 h9 h11 h13 h14 h14a h14b h15 hm hT hC hcan hn hsz hl hlw hml
        go_enter Tryz.func4, Tryz.ntmps4
        go_wp2_with (first | (go_at_call 9; refine (H9.out).mono ?_; rintro e w1 ⟨rfl, hb1⟩; have B1 := Aside0.mk hb1) | (go_at_call 11; refine (H11.out _ B1.out).mono ?_; rintro e w2 ⟨v2, rfl, hv2, hb2⟩; have BV := Aside0.mk (hv2.lower B1.out.size); have B2 := Aside0.mk (below_then B1.out B1.out.size hb2); clear hv2) | (go_at_call 13; refine (H13.out _ B2.out).mono ?_; rintro e w3 ⟨rfl, hb3⟩; have BV3 := Aside0.mk (BV.out.below hb3); have B3 := Aside0.mk (below_then B2.out B2.out.size hb3)) | ((with_reducible refine gate_builtin (b := .append) (xs := #[.tmp 34, .tmp 35]) rfl ?_); at_builtin; refine wpList_append_keep rfl (.tmp 34) (.tmp 35) rfl w.heap.size v2 vm (writeS xs) more rfl rfl BV3.out (HM.out.below B3.out) (by have := HLW.out; have := HML.out; omega) B3.out.size ?_; intro v4 w4 hv4 hg4 hr4; have R4 := Aside0.mk hv4.reads; have RB4 := Aside0.mk hr4; have B4 := Aside0.mk (below_grown' B3.out BV3.out hg4); clear hv4 hg4 hr4) | (go_at_call 14; first | (refine (H14b.out _ _ B6.out RB6.out).mono ?_; rintro e w7 ⟨rfl, hb7⟩; have HC7 := Aside0.mk (Kd.C_below HC6.out hb7); have B7 := Aside0.mk (below_then B6.out B6.out.size hb7)) | (refine (H14a.out _ _ B5.out RB5.out).mono ?_; rintro e w6 ⟨rfl, hb6⟩; have HC6 := Aside0.mk (Kd.C_below HC5.out hb6); have B6 := Aside0.mk (below_then B5.out B5.out.size hb6); have RB6 := Aside0.mk (RB5.out.below hb6)) | (refine (H14.out _ _ B4.out R4.out).mono ?_; rintro e w5 ⟨A5, c5, rfl, hc5, hC5, hb5⟩; have HC5 := Aside0.mk hC5; have B5 := Aside0.mk (below_then B4.out B4.out.size hb5); have RB5 := Aside0.mk (RB4.out.below hb5); clear hC5)) | (go_at_call 10; refine (H10.out _ B7.out).mono ?_; rintro e w8 ⟨rfl, hb8⟩; have HC8 := Aside0.mk (Kd.C_below HC7.out hb8); have B8 := Aside0.mk (below_then B7.out B7.out.size hb8)) | (go_at_call 15; refine (H15.out _ _ _ B8.out HC8.out hc5).mono ?_; rintro e w9 ⟨rfl, hb9⟩))
        go_ret
        exact ⟨rfl, below_then B8.out B8.out.size hb9⟩
      · have hp1 : xs.length = 0 := by omega
        have h14a : ∀ W v, Below w.heap.size w W → RB W v (writeS xs) → Calls Tryz.prog 14 #[v, .int .i64 (wrap64 ((n : Int) - 1)), .int .i64 xs.length] W fun e w' => ∃ A c, e = .returned (.tuple #[.slice A xs.length c, .int .i64 0]) ∧ xs.length ≤ c ∧ Kd.C k44 w' A xs.length xs ∧ Below W.heap.size W w' := fun W v hW hv => by rw [wrap64_in _ (by omega)]; exact read_nil v xs W (hT.below hW) hv hp1 _ _ (by omega)
        have h14b : ∀ W v, Below w.heap.size w W → RB W v (writeS xs) → Calls Tryz.prog 14 #[v, .int .i64 n, .int .i64 (wrap64 ((xs.length : Int) - 1))] W fun e w' => ∃ A c, e = .returned (.tuple #[.slice A xs.length c, .int .i64 0]) ∧ xs.length ≤ c ∧ Kd.C k44 w' A xs.length xs ∧ Below W.heap.size W w' := fun W v hW hv => by rw [wrap64_in _ (by omega)]; exact read_nil v xs W (hT.below hW) hv hp1 _ _ (by omega)
        have h15 : ∀ W A c, Below w.heap.size w W → Kd.C k44 W A xs.length xs → xs.length ≤ c → Calls Tryz.prog 15 #[.slice A0 xs.length c0, .slice A xs.length c] W fun e w' => e = .returned (.bool true) ∧ Below W.heap.size W w' := fun W A c hW hA hc => by
          refine (wainloadref16_Same.calls _ A0 c0 xs A c xs true W (hC W hW) hc0 hA hc (same_f xs (by omega))).mono ?_
          rintro e w' ⟨rfl, nd, rfl⟩
          exact ⟨rfl, pw_below_drewN (Below.refl _ _) nd⟩
        have H11 := Aside0.mk h11
        have H13 := Aside0.mk h13
        have H14 := Aside0.mk h14
        have H14a := Aside0.mk h14a
        have H14b := Aside0.mk h14b
        have H15 := Aside0.mk h15
        have HN : Aside0 (n ≤ 100000 ∧ xs.length ≤ 60) := ⟨by omega, hl⟩
        have HLW := Aside0.mk hlw
        have q1 : decide (xs.length = 0) = true := decide_eq_true hp1
        have q2 : (xs.length == 0) = true := by simpa using hp1
        have q3 : ((xs.length : Int) == 0) = true := by simpa using hp1
        have q4 : decide ((xs.length : Int) = 0) = true := decide_eq_true (by omega)
        have HML := Aside0.mk hml
        clear hr0 hz hz2 h10 h9 h11 h13 h14 h14a h14b h15 hm hT hC hcan hn hsz hl hlw hml hp hp1
        go_enter Tryz.func4, Tryz.ntmps4
        go_wp2_with (first | (go_at_call 9; refine (H9.out).mono ?_; rintro e w1 ⟨rfl, hb1⟩; have B1 := Aside0.mk hb1) | (go_at_call 11; refine (H11.out _ B1.out).mono ?_; rintro e w2 ⟨v2, rfl, hv2, hb2⟩; have BV := Aside0.mk (hv2.lower B1.out.size); have B2 := Aside0.mk (below_then B1.out B1.out.size hb2); clear hv2) | (go_at_call 13; refine (H13.out _ B2.out).mono ?_; rintro e w3 ⟨rfl, hb3⟩; have BV3 := Aside0.mk (BV.out.below hb3); have B3 := Aside0.mk (below_then B2.out B2.out.size hb3)) | ((with_reducible refine gate_builtin (b := .append) (xs := #[.tmp 34, .tmp 35]) rfl ?_); at_builtin; refine wpList_append_keep rfl (.tmp 34) (.tmp 35) rfl w.heap.size v2 vm (writeS xs) more rfl rfl BV3.out (HM.out.below B3.out) (by have := HLW.out; have := HML.out; omega) B3.out.size ?_; intro v4 w4 hv4 hg4 hr4; have R4 := Aside0.mk hv4.reads; have RB4 := Aside0.mk hr4; have B4 := Aside0.mk (below_grown' B3.out BV3.out hg4); clear hv4 hg4 hr4) | (go_at_call 14; first | (refine (H14b.out _ _ B6.out RB6.out).mono ?_; rintro e w7 ⟨A7, c7, rfl, hc7, hC7, hb7⟩; have HC7 := Aside0.mk (Kd.C_below HC6.out hb7); have B7 := Aside0.mk (below_then B6.out B6.out.size hb7)) | (refine (H14a.out _ _ B5.out RB5.out).mono ?_; rintro e w6 ⟨A6, c6, rfl, hc6, hC6, hb6⟩; have HC6 := Aside0.mk (Kd.C_below HC5.out hb6); have B6 := Aside0.mk (below_then B5.out B5.out.size hb6); have RB6 := Aside0.mk (RB5.out.below hb6)) | (refine (H14.out _ _ B4.out R4.out).mono ?_; rintro e w5 ⟨A5, c5, rfl, hc5, hC5, hb5⟩; have HC5 := Aside0.mk hC5; have B5 := Aside0.mk (below_then B4.out B4.out.size hb5); have RB5 := Aside0.mk (RB4.out.below hb5); clear hC5)) | (go_at_call 10; refine (H10.out _ B7.out).mono ?_; rintro e w8 ⟨rfl, hb8⟩; have HC8 := Aside0.mk (Kd.C_below HC7.out hb8); have B8 := Aside0.mk (below_then B7.out B7.out.size hb8)) | (go_at_call 15; refine (H15.out _ _ _ B8.out HC8.out hc5).mono ?_; rintro e w9 ⟨rfl, hb9⟩))
        go_ret
        exact ⟨rfl, below_then B8.out B8.out.size hb9⟩
end Go.Proofs.YtkmcbpkciakmeaaGreatDoor.PA

/- The law TarfmtBack, of arguments of bulk at most 1048576: its row and its card, over the walk; nothing is asked beside what the row says. -/
set_option linter.unusedVariables false
namespace Go.Proofs.YtkmcbpkciakmeaaGreatDoor.tarfmtBack
open Go.ChangeShapes Go.WideShapes Go.ChangeAt Go.RowKit
open Go.ChangeMaps (open_string shut_string)

theorem own : ownKnob Tryz.prog.godebug = none := by kernel_rfl
theorem laidOut : laidOutB Tryz.prog = true := by kernel_rfl

set_option maxRecDepth 100000 in
theorem contract (H : Type) (enc : TypeId × Value → H) (W : World) (base : Nat) (args : Array Value) (ds gs : List (DataW H)) (before : List MemPlace)
    (hval : ∀ (j : Nat) t v, Tryz.f4.params[j]? = some t → args[j]? = some v → Value.okWide Tryz.prog W .any base t v)
    (hW : DataW.Whole enc Tryz.prog Tryz.f4.params.toList Rows.tarfmtBackSpec.vars false W args.toList ds gs before) (hk : Rows.uptoSmall H (ds ++ gs) = true) (hT : PA.Tabs W) :
    Calls Tryz.prog 4 args W fun e W' => ∃ v, e = .returned v ∧ Rows.tarfmtBackSpec.post enc Tryz.prog Tryz.f4 false true false false W args v W' := by
  have hW' := hW
  obtain ⟨p, q, hA0, hV, rfl, hfz, hnd⟩ := hW
  have hA : DataW.TrodAll enc Tryz.prog W 0 (fun _ => true) true Tryz.f4.params.toList args.toList ds p := hA0
  rw [Tryz.params4] at hA hval
  obtain ⟨v0, vs0, d0, ds0, p0, q0, hargs, rfl, rfl, h0, r0⟩ := trodAll_cons hA
  obtain ⟨v1, vs1, d1, ds1, p1, q1, rfl, rfl, rfl, h1, r1⟩ := trodAll_cons r0
  obtain ⟨rfl, rfl, rfl⟩ := trodAll_nil r1
  obtain rfl : args = #[v0, v1] := by cases args; simp_all
  obtain ⟨rfl, rfl⟩ := trodVars_none hV
  have hbk := bulks.bound hk
  simp only [List.append_nil, Rows.uptoBulkAll] at hbk
  obtain ⟨a0, len0, cap0, rfl⟩ := okWide_slice Tryz.underlying22 (hval 0 22 v0 rfl rfl)
  have k0 := h0
  have lt0 : ∀ x ∈ p0, x.block < W.heap.size := by obtain ⟨m, hm⟩ := k0; exact DataW.trod_lt m _ _ _ hm
  obtain ⟨xs0, rfl, hc0, hC0, hz0, hn0⟩ := PA.open_ents h0
  obtain ⟨a1, len1, cap1, rfl⟩ := okWide_slice Tryz.underlying25 (hval 1 25 v1 rfl rfl)
  have k1 := h1
  have lt1 : ∀ x ∈ p1, x.block < W.heap.size := by obtain ⟨m, hm⟩ := k1; exact DataW.trod_lt m _ _ _ hm
  obtain ⟨l1, hl1, hB1, hn1⟩ := PA.open_bytes h1
  clear hA0
  refine (PA.law_back a0 cap0 xs0 _ l1 W hT hC0 hc0 (fun x hx => by have := hz0 x hx; omega) hB1 (by omega)).mono fun e W' ⟨he, bel⟩ => ?_
  subst he
  exact ⟨_, rfl, _, _, _, [], _, [], hW', trodAll_mk1 (shut_bool Tryz.underlying4 _), (trodAll_cons_mk (Below.trod laidOut (by kernel_rfl) (of_decide_eq_true (by kernel_rfl)) k0 bel lt0) (trodAll_cons_mk (Below.trod laidOut (by kernel_rfl) (of_decide_eq_true (by kernel_rfl)) k1 bel lt1) trodAll_mk0)), rfl, bel.frame _, fun h => by cases h⟩

noncomputable def laidWorld (os : Os) : World := World.laidAll Tryz.prog os Rows.tarfmtBackUptoRow.laid
theorem laid_met (os : Os) : laidMet Tryz.prog Rows.tarfmtBackUptoRow.laid ((laidWorld os).forCall (fun _ _ => 0) ⟨#[], #[.slice none 0 0, .slice none 0 0], []⟩).memory :=
  laidMet_laidAll _ (by kernel_rfl) (by kernel_rfl)
theorem reads (os : Os) {H : Type} (enc : TypeId × Value → H) : ∃ places, DataW.whole enc Tryz.prog ((laidWorld os).forCall (fun _ _ => 0) ⟨#[], #[.slice none 0 0, .slice none 0 0], []⟩).memory Tryz.f4.params.toList Rows.tarfmtBackSpec.vars false (#[.slice none 0 0, .slice none 0 0] : Array Value).toList 8 = some ([.nil, .nil], [], places) :=
  ⟨[], by kernel_rfl⟩

set_option maxRecDepth 100000 in
theorem liftedUpto (os : Os) (started : os.Started) (H : Type) (enc : TypeId × Value → H) (F : Stop.Interp) :
    ReturnsInHanded {} Tryz.checked os 4 .any ((Rows.OpenSpec.upto Rows.tarfmtBackSpec).preRow enc Tryz.prog Tryz.f4 Rows.tarfmtBackUptoRow.domain false Rows.tarfmtBackUptoRow.laid) (((Rows.OpenSpec.upto Rows.tarfmtBackSpec).at F).post enc Tryz.prog Tryz.f4 false true false false) := by
  obtain ⟨places, hx⟩ := reads os enc
  refine returnsInHanded_of_row (C := Tryz.checked) (s := Rows.OpenSpec.upto Rows.tarfmtBackSpec) own started (by kernel_rfl) Tryz.func4
    (witness_row_at (enc := enc) (C := Tryz.checked) false (laidWorld os) #[.slice none 0 0, .slice none 0 0] rfl (by kernel_rfl) (by kernel_rfl) (by kernel_rfl)
      (OpenSpec.preRow_of_cond 8 hx (by kernel_rfl) (fun k hk => by cases hk; kernel_rfl) (by kernel_rfl) (laid_met os))) ?_
  intro W base args ds gs before hval hW hc hcond _ hL hS _
  exact contract H enc W base args ds gs before hval hW (hcond _ rfl) (PA.tabs_of hL hS)

theorem saidUpto : Rows.TarfmtBackUptoSaid :=
  OpenClaim.holds_of_cond 4 Tryz.f4 rfl rfl rfl rfl rfl rfl rfl ⟨rfl, rfl, rfl, rfl, rfl⟩ rfl rfl rfl rfl rfl (by kernel_rfl) Tryz.func4 (by kernel_rfl)
    (of_decide_eq_true (by kernel_rfl)) (by unfold Func.isWrapper; first | (rw [if_pos (by decide +kernel)]; kernel_rfl) | (rw [if_neg (by decide +kernel)]; exact ⟨rfl, rfl⟩))
    (fun os started H enc _ F => by rw [OpenClaim.pre_eq_preRow]; exact liftedUpto os started H enc F)

theorem plain (f : FuncId) (fn : Func) (hf : Tryz.pinned.checked.prog.funcNamed "wainload/wainloadlaw17.TarfmtBack" = some f) (hfn : Tryz.pinned.checked.prog.funcs[f]? = some fn) :
    false = Tryz.pinned.checked.prog.looks [] ∧ ∀ (j : Nat) t, fn.params[j]? = some t → Tryz.pinned.checked.prog.wantsStandIn t = false := by
  obtain rfl : f = 4 := Option.some.inj ((show Tryz.prog.funcNamed "wainload/wainloadlaw17.TarfmtBack" = some 4 by kernel_rfl).symm.trans hf) |>.symm
  obtain rfl : fn = Tryz.f4 := (Option.some.inj (Tryz.func4.symm.trans hfn)).symm
  refine ⟨by kernel_rfl, fun j t ht => ?_⟩
  rw [Tryz.params4] at ht
  have hm := Array.mem_of_getElem? ht
  simp only [List.mem_toArray, List.mem_cons, List.not_mem_nil, or_false] at hm
  rcases hm with rfl | rfl
  · exact (show Tryz.prog.wantsStandIn 22 = false by kernel_rfl)
  · exact (show Tryz.prog.wantsStandIn 25 = false by kernel_rfl)
theorem cardUpto : Rows.TarfmtBackUptoCardSaid :=
  Claim7.holds_tied_plain_at .later [] _ _ _ _ saidUpto (fun _ h => by cases h) (by kernel_rfl) (fun _ h => by cases h) tarfmtBackUpto_row_tie rfl ⟨rfl, rfl⟩ (by kernel_rfl) rfl plain (by kernel_rfl)
end Go.Proofs.YtkmcbpkciakmeaaGreatDoor.tarfmtBack
namespace Go.Proofs.YtkmcbpkciakmeaaGreatDoor
/-- The card, under a short name, for the claim. -/
theorem tarfmtBack_upto_card : Rows.TarfmtBackUptoCardSaid := tarfmtBack.cardUpto
end Go.Proofs.YtkmcbpkciakmeaaGreatDoor
