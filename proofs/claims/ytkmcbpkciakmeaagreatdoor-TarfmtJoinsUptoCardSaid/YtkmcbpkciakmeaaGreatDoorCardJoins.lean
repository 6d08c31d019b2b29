/- The law TarfmtJoins, of arguments of bulk at most 1048576: the walk, the row and its card; nothing is asked beside what the row says. -/
import Derived.Test.YtkmcbpkciakmeaaGreatDoorMread
import Derived.Test.YtkmcbpkciakmeaaGreatDoorMprintedb
import Derived.Test.YtkmcbpkciakmeaaGreatDoorMprinted
import Derived.Test.YtkmcbpkciakmeaaGreatDoorMalive
import Derived.Test.YtkmcbpkciakmeaaGreatDoorMentry
import Derived.Test.YtkmcbpkciakmeaaGreatDoorMsortg
import Derived.Test.YtkmcbpkciakmeaaGreatDoorMrow
import Derived.ShutString
import Derived.ChangeOld
import Derived.Below
import Derived.Deep.Slices

/- How much entries are; are there few of them? -/
set_option linter.unusedVariables false
set_option linter.unusedSimpArgs false
namespace Go.Proofs.YtkmcbpkciakmeaaGreatDoor.PA
open Go.RowKit Go.Proofs.YtkmcbpkciakmeaaGreatDoorW.PrintWords Go.Proofs.YtkmcbpkciakmeaaGreatDoorW.PrintLast Go.Proofs.YtkmcbpkciakmeaaGreatDoorW.PrintMore

theorem sizeS_le {xs : List S44} {b : Nat} (h : ∀ x ∈ xs, x.f5.size ≤ b) : sizeS xs ≤ xs.length * b := by
  induction xs with
  | nil => simp [sizeS]
  | cons x xs ih =>
    have h1 := h x (List.mem_cons_self ..)
    have h2 := ih fun y hy => h y (List.mem_cons_of_mem _ hy)
    have h3 : sizeS (x :: xs) = x.f5.size + sizeS xs := by simp [sizeS]
    rw [h3, List.length_cons, Nat.add_mul]
    omega
theorem size_l0 (xs : List S44) (hb : sizeS xs ≤ 4611686018427387904) (hl : xs.length ≤ 4611686018427387904) : ∀ (d i k : Nat), i + d = xs.length → d < k → wainloadref16_Size.l0 k xs (sizeS (xs.take i)) i = some (sizeS xs : Int)
  | d, i, 0, _, hk => by omega
  | 0, i, k + 1, h, hk => by
    rw [wainloadref16_Size.l0, if_neg (by omega), List.take_of_length_le (by omega)]
  | d + 1, i, k + 1, h, hk => by
    have hi : i < xs.length := by omega
    have h1 := sizeS_take_le xs (i + 1)
    have h2 := sizeS_succ hi
    have hrd : rd_T44 xs (i : Int) = xs[i] := by
      show xs.getD i z44 = _
      rw [List.getD_eq_getElem?_getD, List.getElem?_eq_getElem hi]; rfl
    rw [wainloadref16_Size.l0, if_pos (by omega), if_pos (by omega), hrd, wrap64_in _ (by omega), wrap64_in _ (by omega)]
    have := size_l0 xs hb hl d (i + 1) k (by omega) (by omega)
    rw [h2] at this
    exact_mod_cast this
theorem size_f (xs : List S44) (hb : sizeS xs ≤ 4611686018427387904) (hl : xs.length ≤ 4611686018427387904) : wainloadref16_Size.f (xs.length + 1) xs = some (sizeS xs : Int) := by
  have := size_l0 xs hb hl xs.length 0 (xs.length + 1) (by omega) (by omega)
  simpa [sizeS, wainloadref16_Size.f] using this
def fewB (xs : List S44) : Bool := decide (xs.length ≤ 60) && decide (sizeS xs ≤ 100000)
theorem few_f (xs : List S44) (hz : ∀ x ∈ xs, x.f5.size ≤ 4294967296) : wainloadlaw17_few.f (xs.length + 1) xs = some (fewB xs) := by
  unfold wainloadlaw17_few.f fewB
  by_cases h : xs.length ≤ 60
  · have h1 := sizeS_le hz
    have h2 : xs.length * 4294967296 ≤ 60 * 4294967296 := Nat.mul_le_mul_right _ h
    rw [if_pos (by omega), size_f xs (by omega) (by omega), decide_eq_true h]
    simp only [Option.bind_some, Bool.true_and, Option.some.injEq, decide_eq_decide]
    omega
  · rw [if_neg (by omega), decide_eq_false h]; rfl
end Go.Proofs.YtkmcbpkciakmeaaGreatDoor.PA

/- Same, of one list; limits that suffice. -/
set_option linter.unusedVariables false
set_option linter.unusedSimpArgs false
namespace Go.Proofs.YtkmcbpkciakmeaaGreatDoor.PA
open Go.RowKit Go.Proofs.YtkmcbpkciakmeaaGreatDoorW.PrintWords Go.Proofs.YtkmcbpkciakmeaaGreatDoorW.PrintLast Go.Proofs.YtkmcbpkciakmeaaGreatDoorW.PrintMore

theorem same_l0 (xs : List S44) (hl : xs.length ≤ 4611686018427387904) : ∀ (d i k : Nat), i + d = xs.length → d < k → wainloadref16_Same.l0 k xs xs i = some true
  | d, i, 0, _, hk => by omega
  | 0, i, k + 1, h, hk => by rw [wainloadref16_Same.l0, if_neg (by omega)]
  | d + 1, i, k + 1, h, hk => by
    have := same_l0 xs hl d (i + 1) k (by omega) (by omega)
    rw [wainloadref16_Same.l0, if_pos (by omega), if_pos (by omega), if_pos (by omega), wrap64_in _ (by omega), if_neg (by simp)]
    exact_mod_cast this
theorem same_f (xs : List S44) (hl : xs.length ≤ 4611686018427387904) : wainloadref16_Same.f (xs.length + 1) xs xs = some true := by
  unfold wainloadref16_Same.f
  rw [if_pos rfl]
  exact_mod_cast same_l0 xs hl xs.length 0 (xs.length + 1) (by omega) (by omega)
theorem lim_all {xs : List S44} {most ents : Int} (h1 : (sizeS xs : Int) ≤ most) (h2 : (xs.length : Int) ≤ ents) : Lim xs most ents xs.length := fun k hk => ⟨by omega, by have := sizeS_take_le xs (k + 1); omega⟩
end Go.Proofs.YtkmcbpkciakmeaaGreatDoor.PA

/- The law TarfmtJoins: the walk: two archives, the first one without its end, are read as the entries of both. -/
set_option linter.unusedVariables false
set_option linter.unusedSimpArgs false
namespace Go.Proofs.YtkmcbpkciakmeaaGreatDoor.PA
open Go.RowKit Go.Proofs.YtkmcbpkciakmeaaGreatDoorW.PrintWords Go.Proofs.YtkmcbpkciakmeaaGreatDoorW.PrintLast Go.Proofs.YtkmcbpkciakmeaaGreatDoorW.PrintMore

theorem R_empty44 (W : World) (B : Nat) (h : B ≤ W.heap.size) : Kd.R k44 44 (W.alloc (.cells #[] 44)) B (fun _ => True) (.slice (some ⟨W.heap.size, 0, none⟩) 0 0) [] := by
  refine ⟨fun _ _ => trivial, [], ?_, ⟨by simp, fun j p hj => by simp at hj⟩⟩
  have h2 := World.ownsRow_lit (base := B) (e := 44) (size := k44.sz) W #[] 0 h (by simp [maxLen]) (by simp)
  simpa using h2
theorem Bin.form {w : World} {B : Nat} {v : Value} {l : Bytes} (h : Bin w B v l) (hp : 0 < l.length) : ∃ g cap, v = .slice (some ⟨g, 0, none⟩) l.length cap ∧ B ≤ g ∧ g < w.heap.size ∧ l.length ≤ cap ∧ cap ≤ 9223372036854775807 := by
  rcases h with ⟨_, rfl⟩ | ⟨g, cap, h1, h2, h3, h4, h5, _⟩
  · simp at hp
  · exact ⟨g, cap, h1, h2, h3, h4, h5⟩
theorem Bin.pre {w : World} {B g n cap : Nat} {l z : Bytes} (h : Bin w B (.slice (some ⟨g, 0, none⟩) n cap) (l ++ z)) : Bin w B (.slice (some ⟨g, 0, none⟩) l.length cap) l := by
  rcases h with ⟨h, _⟩ | ⟨g', cap', h1, h2, h3, h4, h5, h6, h7⟩
  · injection h with h; cases h
  · injection h1 with e1 e2 e3
    injection e1 with e1
    injection e1 with e1
    subst e1; subst e3
    rw [List.length_append] at h4
    refine .inr ⟨g, cap, rfl, h2, h3, by omega, h5, h6, fun j u hu => h7 j u ?_⟩
    rw [Lib.byteCells_append]
    have hj : j < (Lib.byteCells l).length := (List.getElem?_eq_some_iff.1 hu).1
    rw [List.getElem?_append_left hj]
    exact hu
theorem ref_sort_R (A0 : Option Addr) (c0 : Nat) (xs : List S44) (w : World) (hr0 : Kd.C k44 w A0 xs.length xs) (hc0 : xs.length ≤ c0) (hn : xs.length ≤ 1000) :
    Calls Tryz.prog 20 #[.slice A0 xs.length c0] w fun e w' => ∃ A c, e = .returned (.slice A (sortS xs).length c) ∧ Kd.R k44 44 w' w.heap.size (fun _ => True) (.slice A (sortS xs).length c) (sortS xs) ∧ Below w.heap.size w w' := by
  obtain ⟨K, hK⟩ := srt_l0 xs hn xs.length 0 [] (by omega) rfl
  refine (wainloadref16_Sort.calls K A0 c0 xs (sortS xs) w hr0 hc0 (hK K (Nat.le_refl _))).mono ?_
  rintro e w' ⟨v, rfl, hR, hb⟩
  obtain ⟨A, c, rfl, hle, hC⟩ := Kd.R_reads hR
  exact ⟨A, c, rfl, hR, hb⟩
theorem R_kept44 {W W' : World} {base : Nat} {v : Value} {l : List S44} (h : Kd.R k44 44 W base (fun _ => True) v l) {row : Option Nat} (hg : W.grownBy W' row) (hr : ∀ k, row = some k → k < base) : Kd.R k44 44 W' base (fun _ => True) v l :=
  Kd.R_mono (Kd.R_step (Kd.R_bound h) fun k hk hl => hg.block k hl fun e => by have := hr k e.symm; have := hk.2.1; omega) fun _ _ => trivial
theorem bodyS_app (xs ys : List S44) : bodyS (xs ++ ys) = bodyS xs ++ bodyS ys := by unfold bodyS; rw [List.flatMap_append]

theorem checkFrom_small (xs : List S44) : ∀ (d i : Nat), 0 ≤ checkFrom xs i d ∧ checkFrom xs i d ≤ 200
  | 0, i => by rw [checkFrom]; omega
  | d + 1, i => by
    rw [checkFrom]
    split
    · exact checkFrom_small xs d (i + 1)
    · unfold checkAt
      repeat' split
      all_goals omega
theorem checkS_small (xs : List S44) : checkS xs ≤ 9223372036854775807 ∧ -9223372036854775808 ≤ checkS xs := by
  unfold checkS
  split
  · omega
  · have := checkFrom_small xs xs.length 0; omega

set_option maxHeartbeats 4000000 in
set_option maxRecDepth 100000 in
theorem law_joins (A0 : Option Addr) (c0 : Nat) (xs : List S44) (A1 : Option Addr) (c1 : Nat) (ys : List S44) (w : World) (hT : Tabs w)
    (hr0 : Kd.C k44 w A0 xs.length xs) (hc0 : xs.length ≤ c0) (hz0 : ∀ x ∈ xs, x.f1.size ≤ 1073741824 ∧ x.f2.size ≤ 1073741824 ∧ x.f5.size ≤ 1073741824)
    (hr1 : Kd.C k44 w A1 ys.length ys) (hc1 : ys.length ≤ c1) (hz1 : ∀ x ∈ ys, x.f1.size ≤ 1073741824 ∧ x.f2.size ≤ 1073741824 ∧ x.f5.size ≤ 1073741824) :
    Calls Tryz.prog 8 #[.slice A0 xs.length c0, .slice A1 ys.length c1] w fun e w' => e = .returned (.bool true) ∧ Below w.heap.size w w' := by
  have h10 : ∀ W, Below w.heap.size w W → Calls Tryz.prog 10 #[] W fun e w' => e = .returned (.bool true) ∧ Below W.heap.size W w' := fun W hW => alive_calls W (hT.below hW)
  have H10 := Aside0.mk h10
  have hzx : ∀ x ∈ xs, x.f1.size ≤ 1073741824 ∧ x.f2.size ≤ 1073741824 ∧ x.f5.size ≤ 9223372036854775807 := fun x hx => by have := hz0 x hx; omega
  have hzy : ∀ x ∈ ys, x.f1.size ≤ 1073741824 ∧ x.f2.size ≤ 1073741824 ∧ x.f5.size ≤ 9223372036854775807 := fun x hx => by have := hz1 x hx; omega
  have hCx : ∀ W, Below w.heap.size w W → Kd.C k44 W A0 xs.length xs := fun W hW => Kd.C_below hr0 hW
  have hCy : ∀ W, Below w.heap.size w W → Kd.C k44 W A1 ys.length ys := fun W hW => Kd.C_below hr1 hW
  have h9x : Calls Tryz.prog 9 #[.slice A0 xs.length c0] w fun e w' => e = .returned (.bool (fewB xs)) ∧ Below w.heap.size w w' := by
    refine (wainloadlaw17_few.calls _ A0 c0 xs _ w hr0 hc0 (few_f xs (fun x hx => by have := hz0 x hx; omega))).mono ?_
    rintro e w' ⟨rfl, nd, rfl⟩
    exact ⟨rfl, pw_below_drewN (Below.refl _ _) nd⟩
  have h9y : ∀ W, Below w.heap.size w W → Calls Tryz.prog 9 #[.slice A1 ys.length c1] W fun e w' => e = .returned (.bool (fewB ys)) ∧ Below W.heap.size W w' := by
    intro W hW
    refine (wainloadlaw17_few.calls _ A1 c1 ys _ W (hCy W hW) hc1 (few_f ys (fun x hx => by have := hz1 x hx; omega))).mono ?_
    rintro e w' ⟨rfl, nd, rfl⟩
    exact ⟨rfl, pw_below_drewN (Below.refl _ _) nd⟩
  cases hfx : fewB xs with
  | false =>
    rw [hfx] at h9x
    have H9x := Aside0.mk h9x
    clear hr0 hr1 hz0 hz1 hzx hzy hCx hCy h10 h9x h9y hfx hT
    go_enter Tryz.func8, Tryz.ntmps8
    go_wp2_with (first | (go_at_call 9; refine (H9x.out).mono ?_; rintro e w1 ⟨rfl, hb1⟩; have B1 := Aside0.mk hb1) | (go_at_call 10; refine (H10.out _ B1.out).mono ?_; rintro e w2 ⟨rfl, hb2⟩))
    go_ret
    exact ⟨rfl, below_then B1.out B1.out.size hb2⟩
  | true =>
    rw [hfx] at h9x
    have H9x := Aside0.mk h9x
    cases hfy : fewB ys with
    | false =>
      rw [hfy] at h9y
      have H9y := Aside0.mk h9y
      clear hr0 hr1 hz0 hz1 hzx hzy hCx hCy h10 h9x h9y hfx hfy hT
      go_enter Tryz.func8, Tryz.ntmps8
      go_wp2_with (first | (go_at_call 9; first | (have hq := B1.out; clear hq; refine (H9y.out _ B1.out).mono ?_; rintro e w2 ⟨rfl, hb2⟩; have B2 := Aside0.mk (below_then B1.out B1.out.size hb2)) | (refine (H9x.out).mono ?_; rintro e w1 ⟨rfl, hb1⟩; have B1 := Aside0.mk hb1)) | (go_at_call 10; refine (H10.out _ B2.out).mono ?_; rintro e w3 ⟨rfl, hb3⟩))
      go_ret
      exact ⟨rfl, below_then B2.out B2.out.size hb3⟩
    | true =>
      rw [hfy] at h9y
      have H9y := Aside0.mk h9y
      unfold fewB at hfx hfy
      simp only [Bool.and_eq_true, decide_eq_true_eq] at hfx hfy
      obtain ⟨hlx, hsx⟩ := hfx
      obtain ⟨hly, hsy⟩ := hfy
      cases hcx : canS xs with
      | false =>
        have h11x : ∀ W, Below w.heap.size w W → Calls Tryz.prog 11 #[.slice A0 xs.length c0] W fun e w' => e = .returned (.tuple #[.slice none 0 0, .bool false]) ∧ Below W.heap.size W w' := fun W hW => write_calls_no A0 c0 xs W (hT.below hW) (hCx W hW) hc0 hzx hcx
        have h11y : ∀ W, Below w.heap.size w W → Calls Tryz.prog 11 #[.slice A1 ys.length c1] W fun e w' => ∃ v b, e = .returned (.tuple #[v, .bool b]) ∧ Below W.heap.size W w' := fun W hW => by
          cases hcy : canS ys with
          | false => exact (write_calls_no A1 c1 ys W (hT.below hW) (hCy W hW) hc1 hzy hcy).mono fun e w' ⟨h1, h2⟩ => ⟨_, _, h1, h2⟩
          | true => exact (write_calls_yes A1 c1 ys W (hT.below hW) (hCy W hW) hc1 hzy hcy).mono fun e w' ⟨v, h1, _, h2⟩ => ⟨_, _, h1, h2⟩
        have H11x := Aside0.mk h11x
        have H11y := Aside0.mk h11y
        clear hr0 hr1 hz0 hz1 hzx hzy hCx hCy h10 h9x h9y hT h11x h11y hcx
        go_enter Tryz.func8, Tryz.ntmps8
        go_wp2_with (first | (go_at_call 9; first | (have hq := B1.out; clear hq; refine (H9y.out _ B1.out).mono ?_; rintro e w2 ⟨rfl, hb2⟩; have B2 := Aside0.mk (below_then B1.out B1.out.size hb2)) | (refine (H9x.out).mono ?_; rintro e w1 ⟨rfl, hb1⟩; have B1 := Aside0.mk hb1)) | (go_at_call 11; first | (have hq := B3.out; clear hq; refine (H11y.out _ B3.out).mono ?_; rintro e w4 ⟨v4, b4, rfl, hb4⟩; have B4 := Aside0.mk (below_then B3.out B3.out.size hb4)) | (refine (H11x.out _ B2.out).mono ?_; rintro e w3 ⟨rfl, hb3⟩; have B3 := Aside0.mk (below_then B2.out B2.out.size hb3))) | (go_at_call 10; refine (H10.out _ B4.out).mono ?_; rintro e w5 ⟨rfl, hb5⟩))
        go_ret
        exact ⟨rfl, below_then B4.out B4.out.size hb5⟩
      | true =>
        have h11x : ∀ W, Below w.heap.size w W → Calls Tryz.prog 11 #[.slice A0 xs.length c0] W fun e w' => ∃ v, e = .returned (.tuple #[v, .bool true]) ∧ Bin w' W.heap.size v (writeS xs) ∧ Below W.heap.size W w' := fun W hW => write_calls_yes A0 c0 xs W (hT.below hW) (hCx W hW) hc0 hzx hcx
        have H11x := Aside0.mk h11x
        cases hcy : canS ys with
        | false =>
          have h11y : ∀ W, Below w.heap.size w W → Calls Tryz.prog 11 #[.slice A1 ys.length c1] W fun e w' => e = .returned (.tuple #[.slice none 0 0, .bool false]) ∧ Below W.heap.size W w' := fun W hW => write_calls_no A1 c1 ys W (hT.below hW) (hCy W hW) hc1 hzy hcy
          have H11y := Aside0.mk h11y
          clear hr0 hr1 hz0 hz1 hzx hzy hCx hCy h10 h9x h9y hT h11x h11y hcx hcy
          go_enter Tryz.func8, Tryz.ntmps8
          go_wp2_with (first | (go_at_call 9; first | (have hq := B1.out; clear hq; refine (H9y.out _ B1.out).mono ?_; rintro e w2 ⟨rfl, hb2⟩; have B2 := Aside0.mk (below_then B1.out B1.out.size hb2)) | (refine (H9x.out).mono ?_; rintro e w1 ⟨rfl, hb1⟩; have B1 := Aside0.mk hb1)) | (go_at_call 11; first | (have hq := B3.out; clear hq; refine (H11y.out _ B3.out).mono ?_; rintro e w4 ⟨rfl, hb4⟩; have B4 := Aside0.mk (below_then B3.out B3.out.size hb4)) | (refine (H11x.out _ B2.out).mono ?_; rintro e w3 ⟨v3, rfl, hv3, hb3⟩; have B3 := Aside0.mk (below_then B2.out B2.out.size hb3))) | (go_at_call 10; refine (H10.out _ B4.out).mono ?_; rintro e w5 ⟨rfl, hb5⟩))
          go_ret
          exact ⟨rfl, below_then B4.out B4.out.size hb5⟩
        | true =>
          have h11y : ∀ W, Below w.heap.size w W → Calls Tryz.prog 11 #[.slice A1 ys.length c1] W fun e w' => ∃ v, e = .returned (.tuple #[v, .bool true]) ∧ Bin w' W.heap.size v (writeS ys) ∧ Below W.heap.size W w' := fun W hW => write_calls_yes A1 c1 ys W (hT.below hW) (hCy W hW) hc1 hzy hcy
          have H11y := Aside0.mk h11y
          obtain ⟨S, hS⟩ : ∃ S, S = sortS (xs ++ ys) := ⟨_, rfl⟩
          have hSl : S.length = xs.length + ys.length := by rw [hS, sortS_length, List.length_append]
          have hSz : ∀ x ∈ S, x.f1.size ≤ 1073741824 ∧ x.f2.size ≤ 1073741824 ∧ x.f5.size ≤ 9223372036854775807 := by
            intro x hx
            rw [hS] at hx
            rcases List.mem_append.1 (sortS_mem hx) with h | h
            · exact hzx x h
            · exact hzy x h
          have hfine : ∀ x ∈ xs ++ ys, Fine x := by
            intro x hx
            rcases List.mem_append.1 hx with h | h
            · exact (can_fine hcx).2 x h
            · exact (can_fine hcy).2 x h
          have h14 : ∀ W v, Below w.heap.size w W → RB W v (bodyS xs ++ writeS ys) → Calls Tryz.prog 14 #[v, .int .i64 1048576, .int .i64 1000] W (ReadPost W S) := by
            intro W v hW hv
            rw [hS]
            refine read_calls v (xs ++ ys) (sortS (xs ++ ys)) [] 1048576 1000 W (hT.below hW) ?_ hfine (by rw [List.length_append]; omega) ?_ (by omega) ?_ (by rw [← hS]; exact hSz)
            · rw [bodyS_app, List.append_nil, List.append_assoc]; exact hv
            · exact lim_all (by rw [sizeS_app]; omega) (by rw [List.length_append]; omega)
            · intro W2 A c h1 h2 h3
              exact sort_g A c (xs ++ ys) W2 h2 h3 (by rw [List.length_append]; omega)
          obtain ⟨N, hN⟩ : ∃ N, N = (xs ++ ys).length := ⟨_, rfl⟩
          have h20 : ∀ W A c, Kd.C k44 W A N (xs ++ ys) → N ≤ c → Calls Tryz.prog 20 #[.slice A N c] W fun e w' => ∃ A' c', e = .returned (.slice A' S.length c') ∧ Kd.R k44 44 w' W.heap.size (fun _ => True) (.slice A' S.length c') S ∧ Below W.heap.size W w' := by
            intro W A c h1 h2
            rw [hS]
            subst hN
            exact ref_sort_R A c (xs ++ ys) W h1 h2 (by rw [List.length_append]; omega)
          have h21 : ∀ W A c, Kd.C k44 W A S.length S → S.length ≤ c → Calls Tryz.prog 21 #[.slice A S.length c] W fun e w' => e = .returned (.int .i64 (checkS S)) ∧ Below W.heap.size W w' := fun W A c h1 h2 => ref_check_calls A c S W h1 h2 fun x hx => ⟨(hSz x hx).1, (hSz x hx).2.1⟩
          have h15 : ∀ W A c A' c', Kd.C k44 W A S.length S → S.length ≤ c → Kd.C k44 W A' S.length S → S.length ≤ c' → Calls Tryz.prog 15 #[.slice A S.length c, .slice A' S.length c'] W fun e w' => e = .returned (.bool true) ∧ Below W.heap.size W w' := fun W A c A' c' hA hc hA' hc' => by
            refine (wainloadref16_Same.calls _ A c S A' c' S true W hA hc hA' hc' (same_f S (by omega))).mono ?_
            rintro e w' ⟨rfl, nd, rfl⟩
            exact ⟨rfl, pw_below_drewN (Below.refl _ _) nd⟩
          have H14 := Aside0.mk h14
          have H20 := Aside0.mk h20
          have H21 := Aside0.mk h21
          have H15 := Aside0.mk h15
          have HCx := Aside0.mk hCx
          have HCy := Aside0.mk hCy
          obtain ⟨nx, hnx⟩ : ∃ nx, nx = (bodyS xs).length := ⟨_, rfl⟩
          have hnl : nx ≤ 1060000000 := by
            have := bodyS_len xs (can_fine hcx).2
            have h2 : xs.length * 1060000 ≤ 1000 * 1060000 := Nat.mul_le_mul_right _ (by omega)
            omega
          have hnw : (writeS xs).length = nx + 1024 := by unfold writeS; rw [List.length_append, List.length_replicate, hnx]
          have hny : (writeS ys).length ≤ 1060002048 := by
            have := bodyS_len ys (can_fine hcy).2
            have h2 : ys.length * 1060000 ≤ 1000 * 1060000 := Nat.mul_le_mul_right _ (by omega)
            unfold writeS; rw [List.length_append, List.length_replicate]; omega
          have HNX := Aside0.mk hnx
          have HNW := Aside0.mk hnw
          have HNY := Aside0.mk hny
          have HSL := Aside0.mk hSl
          have HNN := Aside0.mk hN
          clear hN hSl
          have HLL : Aside0 (xs.length ≤ 60 ∧ ys.length ≤ 60) := ⟨hlx, hly⟩
          have hq1 : ¬ ((nx : Int) + 1024 < 1024) := by omega
          have hq2 : decide ((nx : Int) + 1024 < 1024) = false := decide_eq_false hq1
          clear hr0 hr1 hz0 hz1 hzx hzy hCx hCy h10 h9x h9y hT h11x h11y hcx hcy hS hSz hfine h14 h20 h21 h15 hnx hnw hny
          have hq3 : nx ≤ nx + 1024 := by omega
          have hck0 : checkS S ≤ 9223372036854775807 ∧ -9223372036854775808 ≤ checkS S := checkS_small S
          by_cases hck : checkS S = 0
          · have HCK := Aside0.mk hck
            unfold ReadPost at H14
            obtain ⟨q, hq⟩ : ∃ q, q = checkS S := ⟨_, rfl⟩
            have hq0 : q = 0 := by omega
            have H21' : Aside0 (∀ W A c, Kd.C k44 W A S.length S → S.length ≤ c → Calls Tryz.prog 21 #[.slice A S.length c] W fun e w' => e = .returned (.int .i64 0) ∧ Below W.heap.size W w') := ⟨by have := H21.out; rw [hck] at this; exact this⟩
            clear H21
            have H21 := H21'
            clear H21' hq0 hq hck hck0
            go_enter Tryz.func8, Tryz.ntmps8
            go_wp2_with (first
              | (go_at_call 9; first | (have hq := B1.out; clear hq; refine (H9y.out _ B1.out).mono ?_; rintro e w2 ⟨rfl, hb2⟩; have B2 := Aside0.mk (below_then B1.out B1.out.size hb2)) | (refine (H9x.out).mono ?_; rintro e w1 ⟨rfl, hb1⟩; have B1 := Aside0.mk hb1))
              | (go_at_call 11; first | (have hq := B3.out; clear hq; refine (H11y.out _ B3.out).mono ?_; rintro e w4 ⟨v4, rfl, hv4, hb4⟩; have B4 := Aside0.mk (below_then B3.out B3.out.size hb4); have V4 := Aside0.mk (V3.out.below hb4); have R4 := Aside0.mk hv4.reads; have hs34 := hb4.size; clear hv4) | (refine (H11x.out _ B2.out).mono ?_; rintro e w3 ⟨v3, rfl, hv3, hb3⟩; have B3 := Aside0.mk (below_then B2.out B2.out.size hb3); obtain ⟨g3, cap3, hf3, hg3a, hg3b, hcap3, hcap3b⟩ := hv3.form (by rw [HNW.out]; omega); rw [HNW.out] at hf3 hcap3; subst hf3; have hcapn : nx ≤ cap3 := (by omega); have V3 := Aside0.mk (hv3.lower B2.out.size); clear hv3))
              | ((with_reducible refine gate_builtin (b := .append) (xs := #[.tmp 44, .tmp 45]) rfl ?_); at_builtin; refine Kd.R_append_rows k44 (Rr := k44.K (w4.alloc (.cells #[] 44))) (w0 := w4) w4.heap.size rfl (.tmp 44) (.tmp 45) 22 44 _ 72 rfl under22 info44e rfl (by decide) (by decide) (.slice (some ⟨w4.heap.size, 0, none⟩) 0 0) [] xs A0 xs.length c0 (fun _ => True) (fun _ => False) rfl rfl (R_empty44 w4 _ (Nat.le_refl _)) (HCx.out _ (below_alloc B4.out _)) (fun x cs h => by rw [k44_open h]; exact k44_mkM _ _ _ x) (fun k hk => hk.elim) (fun _ _ => trivial) (below_alloc (Below.refl _ _) _) (below_alloc (Below.refl _ w4) _).size (by have := HLL.out.1; simp only [List.length_nil]; omega) ?_; intro v5 w5 ho5 hb5 hg5 hat5; rw [List.nil_append] at ho5; have O5 := Aside0.mk ho5; have D5 := Aside0.mk hb5; have B5 := Aside0.mk (below_then B4.out B4.out.size hb5); clear ho5 hb5 hg5 hat5)
              | ((with_reducible refine gate_builtin (b := .append) (xs := #[.tmp 46, .tmp 47]) rfl ?_); at_builtin; refine Kd.R_append_rows k44 (Rr := k44.K w5) (w0 := w4) w4.heap.size rfl (.tmp 46) (.tmp 47) 22 44 _ 72 rfl under22 info44e rfl (by decide) (by decide) v5 xs ys A1 ys.length c1 (fun _ => True) (fun _ => False) rfl rfl O5.out (HCy.out _ B5.out) (fun x cs h => by rw [k44_open h]; exact k44_mkM _ _ _ x) (fun k hk => hk.elim) (fun _ _ => trivial) D5.out D5.out.size (by have := HLL.out; omega) ?_; intro v6 w6 ho6 hb6 hg6 hat6; obtain ⟨A6, c6, hv6e, hle6, hC6⟩ := Kd.R_reads ho6; rw [← HNN.out] at hv6e hle6 hC6; subst hv6e; have X6 := Aside0.mk hC6; have L6 := Aside0.mk hle6; have B6 := Aside0.mk (below_then B4.out B4.out.size hb6); have V6 := Aside0.mk (V4.out.below hb6); have R6 := Aside0.mk (R4.out.below hb6); have hg36 : g3 < w6.heap.size := (by have := hb6.size; omega); clear ho6 hb6 hg6 hat6 hC6 hle6)
              | (go_at_call 20; refine (H20.out _ _ _ X6.out L6.out).mono ?_; rintro e w7 ⟨A7, c7, rfl, hR7, hb7⟩; have O7 := Aside0.mk hR7; have B7 := Aside0.mk (below_then B6.out B6.out.size hb7); have P7 : Aside0 (Bin w7 w.heap.size (.slice (some ⟨g3, 0, none⟩) nx cap3) (bodyS xs)) := ⟨by rw [HNX.out]; exact Bin.pre (V6.out.below hb7)⟩; have R7 := Aside0.mk (R6.out.below hb7); clear hR7)
              | ((with_reducible refine gate_builtin (b := .append) (xs := #[.tmp 55, .tmp 56]) rfl ?_); at_builtin; refine wpList_append_bin rfl (.tmp 55) (.tmp 56) rfl w.heap.size (.slice (some ⟨g3, 0, none⟩) nx cap3) v4 (bodyS xs) (writeS ys) rfl rfl P7.out R7.out (by rw [← HNX.out]; have := HNY.out; omega) B7.out.size ?_; intro v8 w8 hv8 hg8 hat8; have R8 := Aside0.mk hv8.reads; have B8 := Aside0.mk (below_grown' B7.out P7.out hg8); have O8 := Aside0.mk (R_kept44 O7.out hg8 (fun k hk => by simp [Value.ownBlock] at hk; omega)); clear hv8 hg8 hat8)
              | (go_at_call 14; refine (H14.out _ _ B8.out R8.out).mono ?_; rintro e w9 ⟨h9, hb9⟩; rw [if_pos HCK.out] at h9; obtain ⟨A9, c9, rfl, hc9, hC9⟩ := h9; have X9 := Aside0.mk hC9; have L9 := Aside0.mk hc9; have O9 := Aside0.mk (Kd.R_below O8.out hb9); have B9 := Aside0.mk (below_then B8.out B8.out.size hb9); clear hC9 hc9)
              | (go_at_call 21; refine (H21.out _ _ _ (Kd.R_reads' O9.out).2.2 (Kd.R_reads' O9.out).2.1).mono ?_; rintro e w10 ⟨rfl, hb10⟩; have O10 := Aside0.mk (Kd.R_below O9.out hb10); have X10 := Aside0.mk (Kd.C_below X9.out hb10); have B10 := Aside0.mk (below_then B9.out B9.out.size hb10))
              | (go_at_call 10; refine (H10.out _ B10.out).mono ?_; rintro e w11 ⟨rfl, hb11⟩; have O11 := Aside0.mk (Kd.R_below O10.out hb11); have X11 := Aside0.mk (Kd.C_below X10.out hb11); have B11 := Aside0.mk (below_then B10.out B10.out.size hb11))
              | (go_at_call 15; refine (H15.out _ _ _ _ _ X11.out L9.out (Kd.R_reads' O11.out).2.2 (Kd.R_reads' O11.out).2.1).mono ?_; rintro e w12 ⟨rfl, hb12⟩; have B12 := Aside0.mk (below_then B11.out B11.out.size hb12)))
            go_ret
            exact ⟨rfl, B12.out⟩
          · have HCK := Aside0.mk hck
            unfold ReadPost at H14
            obtain ⟨q, hq⟩ : ∃ q, q = checkS S := ⟨_, rfl⟩
            rw [← hq] at hck hck0 H21 H14 HCK
            have hqb : (q != 0) = true := by rw [bne_iff_ne]; exact hck
            have hqe : (q == q) = true := beq_self_eq_true q
            clear hq
            go_enter Tryz.func8, Tryz.ntmps8
            go_wp2_with (first
              | (go_at_call 9; first | (have hq := B1.out; clear hq; refine (H9y.out _ B1.out).mono ?_; rintro e w2 ⟨rfl, hb2⟩; have B2 := Aside0.mk (below_then B1.out B1.out.size hb2)) | (refine (H9x.out).mono ?_; rintro e w1 ⟨rfl, hb1⟩; have B1 := Aside0.mk hb1))
              | (go_at_call 11; first | (have hq := B3.out; clear hq; refine (H11y.out _ B3.out).mono ?_; rintro e w4 ⟨v4, rfl, hv4, hb4⟩; have B4 := Aside0.mk (below_then B3.out B3.out.size hb4); have V4 := Aside0.mk (V3.out.below hb4); have R4 := Aside0.mk hv4.reads; have hs34 := hb4.size; clear hv4) | (refine (H11x.out _ B2.out).mono ?_; rintro e w3 ⟨v3, rfl, hv3, hb3⟩; have B3 := Aside0.mk (below_then B2.out B2.out.size hb3); obtain ⟨g3, cap3, hf3, hg3a, hg3b, hcap3, hcap3b⟩ := hv3.form (by rw [HNW.out]; omega); rw [HNW.out] at hf3 hcap3; subst hf3; have hcapn : nx ≤ cap3 := (by omega); have V3 := Aside0.mk (hv3.lower B2.out.size); clear hv3))
              | ((with_reducible refine gate_builtin (b := .append) (xs := #[.tmp 44, .tmp 45]) rfl ?_); at_builtin; refine Kd.R_append_rows k44 (Rr := k44.K (w4.alloc (.cells #[] 44))) (w0 := w4) w4.heap.size rfl (.tmp 44) (.tmp 45) 22 44 _ 72 rfl under22 info44e rfl (by decide) (by decide) (.slice (some ⟨w4.heap.size, 0, none⟩) 0 0) [] xs A0 xs.length c0 (fun _ => True) (fun _ => False) rfl rfl (R_empty44 w4 _ (Nat.le_refl _)) (HCx.out _ (below_alloc B4.out _)) (fun x cs h => by rw [k44_open h]; exact k44_mkM _ _ _ x) (fun k hk => hk.elim) (fun _ _ => trivial) (below_alloc (Below.refl _ _) _) (below_alloc (Below.refl _ w4) _).size (by have := HLL.out.1; simp only [List.length_nil]; omega) ?_; intro v5 w5 ho5 hb5 hg5 hat5; rw [List.nil_append] at ho5; have O5 := Aside0.mk ho5; have D5 := Aside0.mk hb5; have B5 := Aside0.mk (below_then B4.out B4.out.size hb5); clear ho5 hb5 hg5 hat5)
              | ((with_reducible refine gate_builtin (b := .append) (xs := #[.tmp 46, .tmp 47]) rfl ?_); at_builtin; refine Kd.R_append_rows k44 (Rr := k44.K w5) (w0 := w4) w4.heap.size rfl (.tmp 46) (.tmp 47) 22 44 _ 72 rfl under22 info44e rfl (by decide) (by decide) v5 xs ys A1 ys.length c1 (fun _ => True) (fun _ => False) rfl rfl O5.out (HCy.out _ B5.out) (fun x cs h => by rw [k44_open h]; exact k44_mkM _ _ _ x) (fun k hk => hk.elim) (fun _ _ => trivial) D5.out D5.out.size (by have := HLL.out; omega) ?_; intro v6 w6 ho6 hb6 hg6 hat6; obtain ⟨A6, c6, hv6e, hle6, hC6⟩ := Kd.R_reads ho6; rw [← HNN.out] at hv6e hle6 hC6; subst hv6e; have X6 := Aside0.mk hC6; have L6 := Aside0.mk hle6; have B6 := Aside0.mk (below_then B4.out B4.out.size hb6); have V6 := Aside0.mk (V4.out.below hb6); have R6 := Aside0.mk (R4.out.below hb6); have hg36 : g3 < w6.heap.size := (by have := hb6.size; omega); clear ho6 hb6 hg6 hat6 hC6 hle6)
              | (go_at_call 20; refine (H20.out _ _ _ X6.out L6.out).mono ?_; rintro e w7 ⟨A7, c7, rfl, hR7, hb7⟩; have O7 := Aside0.mk hR7; have B7 := Aside0.mk (below_then B6.out B6.out.size hb7); have P7 : Aside0 (Bin w7 w.heap.size (.slice (some ⟨g3, 0, none⟩) nx cap3) (bodyS xs)) := ⟨by rw [HNX.out]; exact Bin.pre (V6.out.below hb7)⟩; have R7 := Aside0.mk (R6.out.below hb7); clear hR7)
              | ((with_reducible refine gate_builtin (b := .append) (xs := #[.tmp 55, .tmp 56]) rfl ?_); at_builtin; refine wpList_append_bin rfl (.tmp 55) (.tmp 56) rfl w.heap.size (.slice (some ⟨g3, 0, none⟩) nx cap3) v4 (bodyS xs) (writeS ys) rfl rfl P7.out R7.out (by rw [← HNX.out]; have := HNY.out; omega) B7.out.size ?_; intro v8 w8 hv8 hg8 hat8; have R8 := Aside0.mk hv8.reads; have B8 := Aside0.mk (below_grown' B7.out P7.out hg8); have O8 := Aside0.mk (R_kept44 O7.out hg8 (fun k hk => by simp [Value.ownBlock] at hk; omega)); clear hv8 hg8 hat8)
              | (go_at_call 14; refine (H14.out _ _ B8.out R8.out).mono ?_; rintro e w9 ⟨h9, hb9⟩; rw [if_neg HCK.out] at h9; subst h9; have O9 := Aside0.mk (Kd.R_below O8.out hb9); have B9 := Aside0.mk (below_then B8.out B8.out.size hb9))
              | (go_at_call 21; refine (H21.out _ _ _ (Kd.R_reads' O9.out).2.2 (Kd.R_reads' O9.out).2.1).mono ?_; rintro e w10 ⟨rfl, hb10⟩; have B10 := Aside0.mk (below_then B9.out B9.out.size hb10))
              | (go_at_call 10; refine (H10.out _ B10.out).mono ?_; rintro e w11 ⟨rfl, hb11⟩; have B11 := Aside0.mk (below_then B10.out B10.out.size hb11)))
            go_ret
            exact ⟨rfl, B11.out⟩
end Go.Proofs.YtkmcbpkciakmeaaGreatDoor.PA

/- The law TarfmtJoins, of arguments of bulk at most 1048576: its row and its card, over the walk; nothing is asked beside what the row says. -/
set_option linter.unusedVariables false
namespace Go.Proofs.YtkmcbpkciakmeaaGreatDoor.tarfmtJoins
open Go.ChangeShapes Go.WideShapes Go.ChangeAt Go.RowKit
open Go.ChangeMaps (open_string shut_string)

theorem own : ownKnob Tryz.prog.godebug = none := by kernel_rfl
theorem laidOut : laidOutB Tryz.prog = true := by kernel_rfl

set_option maxRecDepth 100000 in
theorem contract (H : Type) (enc : TypeId × Value → H) (W : World) (base : Nat) (args : Array Value) (ds gs : List (DataW H)) (before : List MemPlace)
    (hval : ∀ (j : Nat) t v, Tryz.f8.params[j]? = some t → args[j]? = some v → Value.okWide Tryz.prog W .any base t v)
    (hW : DataW.Whole enc Tryz.prog Tryz.f8.params.toList Rows.tarfmtJoinsSpec.vars false W args.toList ds gs before) (hk : Rows.uptoSmall H (ds ++ gs) = true) (hT : PA.Tabs W) :
    Calls Tryz.prog 8 args W fun e W' => ∃ v, e = .returned v ∧ Rows.tarfmtJoinsSpec.post enc Tryz.prog Tryz.f8 false true false false W args v W' := by
  have hW' := hW
  obtain ⟨p, q, hA0, hV, rfl, hfz, hnd⟩ := hW
  have hA : DataW.TrodAll enc Tryz.prog W 0 (fun _ => true) true Tryz.f8.params.toList args.toList ds p := hA0
  rw [Tryz.params8] at hA hval
  obtain ⟨v0, vs0, d0, ds0, p0, q0, hargs, rfl, rfl, h0, r0⟩ := trodAll_cons hA
  obtain ⟨v1, vs1, d1, ds1, p1, q1, rfl, rfl, rfl, h1, r1⟩ := trodAll_cons r0
  obtain ⟨rfl, rfl, rfl⟩ := trodAll_nil r1
  obtain rfl : args = #[v0, v1] := by cases args; simp_all
  obtain ⟨rfl, rfl⟩ := trodVars_none hV
  have hbk := bulks.bound hk
  simp only [List.append_nil, Rows.uptoBulkAll] at hbk
  obtain ⟨a0, len0, cap0, rfl⟩ := okWide_slice Tryz.underlying22 (hval 0 22 v0 rfl rfl)
  have k0 := h0
  have lt0 : ∀ x ∈ p0, x.block < W.heap.size := by obtain ⟨m, hm⟩ := k0; exact DataW.trod_lt m _ _ _ hm
  obtain ⟨xs0, rfl, hc0, hC0, hz0, hn0⟩ := PA.open_ents h0
  obtain ⟨a1, len1, cap1, rfl⟩ := okWide_slice Tryz.underlying22 (hval 1 22 v1 rfl rfl)
  have k1 := h1
  have lt1 : ∀ x ∈ p1, x.block < W.heap.size := by obtain ⟨m, hm⟩ := k1; exact DataW.trod_lt m _ _ _ hm
  obtain ⟨xs1, rfl, hc1, hC1, hz1, hn1⟩ := PA.open_ents h1
  clear hA0
  refine (PA.law_joins a0 cap0 xs0 a1 cap1 xs1 W hT hC0 hc0 (fun x hx => by have := hz0 x hx; omega) hC1 hc1 (fun x hx => by have := hz1 x hx; omega)).mono fun e W' ⟨he, bel⟩ => ?_
  subst he
  exact ⟨_, rfl, _, _, _, [], _, [], hW', trodAll_mk1 (shut_bool Tryz.underlying4 _), (trodAll_cons_mk (Below.trod laidOut (by kernel_rfl) (of_decide_eq_true (by kernel_rfl)) k0 bel lt0) (trodAll_cons_mk (Below.trod laidOut (by kernel_rfl) (of_decide_eq_true (by kernel_rfl)) k1 bel lt1) trodAll_mk0)), rfl, bel.frame _, fun h => by cases h⟩

noncomputable def laidWorld (os : Os) : World := World.laidAll Tryz.prog os Rows.tarfmtJoinsUptoRow.laid
theorem laid_met (os : Os) : laidMet Tryz.prog Rows.tarfmtJoinsUptoRow.laid ((laidWorld os).forCall (fun _ _ => 0) ⟨#[], #[.slice none 0 0, .slice none 0 0], []⟩).memory :=
  laidMet_laidAll _ (by kernel_rfl) (by kernel_rfl)
theorem reads (os : Os) {H : Type} (enc : TypeId × Value → H) : ∃ places, DataW.whole enc Tryz.prog ((laidWorld os).forCall (fun _ _ => 0) ⟨#[], #[.slice none 0 0, .slice none 0 0], []⟩).memory Tryz.f8.params.toList Rows.tarfmtJoinsSpec.vars false (#[.slice none 0 0, .slice none 0 0] : Array Value).toList 8 = some ([.nil, .nil], [], places) :=
  ⟨[], by kernel_rfl⟩

set_option maxRecDepth 100000 in
theorem liftedUpto (os : Os) (started : os.Started) (H : Type) (enc : TypeId × Value → H) (F : Stop.Interp) :
    ReturnsInHanded {} Tryz.checked os 8 .any ((Rows.OpenSpec.upto Rows.tarfmtJoinsSpec).preRow enc Tryz.prog Tryz.f8 Rows.tarfmtJoinsUptoRow.domain false Rows.tarfmtJoinsUptoRow.laid) (((Rows.OpenSpec.upto Rows.tarfmtJoinsSpec).at F).post enc Tryz.prog Tryz.f8 false true false false) := by
  obtain ⟨places, hx⟩ := reads os enc
  refine returnsInHanded_of_row (C := Tryz.checked) (s := Rows.OpenSpec.upto Rows.tarfmtJoinsSpec) own started (by kernel_rfl) Tryz.func8
    (witness_row_at (enc := enc) (C := Tryz.checked) false (laidWorld os) #[.slice none 0 0, .slice none 0 0] rfl (by kernel_rfl) (by kernel_rfl) (by kernel_rfl)
      (OpenSpec.preRow_of_cond 8 hx (by kernel_rfl) (fun k hk => by cases hk; kernel_rfl) (by kernel_rfl) (laid_met os))) ?_
  intro W base args ds gs before hval hW hc hcond _ hL hS _
  exact contract H enc W base args ds gs before hval hW (hcond _ rfl) (PA.tabs_of hL hS)

theorem saidUpto : Rows.TarfmtJoinsUptoSaid :=
  OpenClaim.holds_of_cond 8 Tryz.f8 rfl rfl rfl rfl rfl rfl rfl ⟨rfl, rfl, rfl, rfl, rfl⟩ rfl rfl rfl rfl rfl (by kernel_rfl) Tryz.func8 (by kernel_rfl)
    (of_decide_eq_true (by kernel_rfl)) (by unfold Func.isWrapper; first | (rw [if_pos (by decide +kernel)]; kernel_rfl) | (rw [if_neg (by decide +kernel)]; exact ⟨rfl, rfl⟩))
    (fun os started H enc _ F => by rw [OpenClaim.pre_eq_preRow]; exact liftedUpto os started H enc F)

theorem plain (f : FuncId) (fn : Func) (hf : Tryz.pinned.checked.prog.funcNamed "wainload/wainloadlaw17.TarfmtJoins" = some f) (hfn : Tryz.pinned.checked.prog.funcs[f]? = some fn) :
    false = Tryz.pinned.checked.prog.looks [] ∧ ∀ (j : Nat) t, fn.params[j]? = some t → Tryz.pinned.checked.prog.wantsStandIn t = false := by
  obtain rfl : f = 8 := Option.some.inj ((show Tryz.prog.funcNamed "wainload/wainloadlaw17.TarfmtJoins" = some 8 by kernel_rfl).symm.trans hf) |>.symm
  obtain rfl : fn = Tryz.f8 := (Option.some.inj (Tryz.func8.symm.trans hfn)).symm
  refine ⟨by kernel_rfl, fun j t ht => ?_⟩
  rw [Tryz.params8] at ht
  have hm := Array.mem_of_getElem? ht
  simp only [List.mem_toArray, List.mem_cons, List.not_mem_nil, or_false] at hm
  rcases hm with rfl | rfl
  · exact (show Tryz.prog.wantsStandIn 22 = false by kernel_rfl)
  · exact (show Tryz.prog.wantsStandIn 22 = false by kernel_rfl)
theorem cardUpto : Rows.TarfmtJoinsUptoCardSaid :=
  Claim7.holds_tied_plain_at .later [] _ _ _ _ saidUpto (fun _ h => by cases h) (by kernel_rfl) (fun _ h => by cases h) tarfmtJoinsUpto_row_tie rfl ⟨rfl, rfl⟩ (by kernel_rfl) rfl plain (by kernel_rfl)
end Go.Proofs.YtkmcbpkciakmeaaGreatDoor.tarfmtJoins
namespace Go.Proofs.YtkmcbpkciakmeaaGreatDoor
/-- The card, under a short name, for the claim. -/
theorem tarfmtJoins_upto_card : Rows.TarfmtJoinsUptoCardSaid := tarfmtJoins.cardUpto
end Go.Proofs.YtkmcbpkciakmeaaGreatDoor
