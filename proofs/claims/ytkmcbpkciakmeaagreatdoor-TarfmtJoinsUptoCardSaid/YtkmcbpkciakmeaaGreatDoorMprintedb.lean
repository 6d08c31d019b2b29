/- Functions of the seat's translation, told by the kit's print tool over all laws at once, the document's answers. -/
import Derived.Test.YtkmcbpkciakmeaaGreatDoorMprinted

namespace Go.Proofs.YtkmcbpkciakmeaaGreatDoor.PA
open Go.RowKit Go.Proofs.YtkmcbpkciakmeaaGreatDoorW.PrintWords Go.Proofs.YtkmcbpkciakmeaaGreatDoorW.PrintLast Go.Proofs.YtkmcbpkciakmeaaGreatDoorW.PrintMore
attribute [local go_sem] max2_int min2_int max_two min_two max_three min_three max_four min_four   -- for this text's walks alone
set_option linter.unusedVariables false
set_option linter.unusedSimpArgs false
attribute [local go_sem high] binOp_string_gtr_lt

/-! ### wainloadref16_Size: function 13 -/
def wainloadref16_Size.l0 : Nat → List (S44) → Int → Int → Option (Int)
  | 0, _, _, _ => none
  | k + 1, x0, x3, x4 => if x4 < (x0.length : Int) then (if 0 ≤ x4 then (wainloadref16_Size.l0 k x0 (wrap64 (x3 + (((rd_T44 x0 x4).f5).size : Int))) (wrap64 (x4 + 1))) else (none)) else (some x3)
def wainloadref16_Size.f (k : Nat) (l0 : List (S44)) : Option (Int) := wainloadref16_Size.l0 k l0 0 0
theorem wainloadref16_Size.mono_l : ∀ k, (∀ y0 y1 y2, LeO (wainloadref16_Size.l0 k y0 y1 y2) (wainloadref16_Size.l0 (k + 1) y0 y1 y2))
  | 0 => fun _ _ _ r h => by simp [wainloadref16_Size.l0] at h
  | k + 1 => by
    have ih0 := wainloadref16_Size.mono_l k
    · intro y0 y1 y2
      unfold wainloadref16_Size.l0
      repeat' first
      | (with_reducible exact ih0 _ _ _)
      | (with_reducible exact LeO.refl _)
      | (with_reducible exact LeO.none _)
      | (with_reducible refine LeO.ite ?_ ?_)
      | (with_reducible refine LeO.bind ?_ (fun _ => ?_))
      | exact ih0 _ _ _
      | exact LeO.none _
      | refine LeO.ite ?_ ?_
      | refine LeO.bind ?_ (fun _ => ?_)
theorem wainloadref16_Size.mono : ∀ a0 k, LeO (wainloadref16_Size.f k a0) (wainloadref16_Size.f (k + 1) a0) := by
  intro a0 k
  have ih0 := wainloadref16_Size.mono_l k
  unfold wainloadref16_Size.f
  repeat' first
      | (with_reducible exact ih0 _ _ _)
      | (with_reducible exact LeO.refl _)
      | (with_reducible exact LeO.none _)
      | (with_reducible refine LeO.ite ?_ ?_)
      | (with_reducible refine LeO.bind ?_ (fun _ => ?_))
      | exact ih0 _ _ _
      | exact LeO.none _
      | refine LeO.ite ?_ ?_
      | refine LeO.bind ?_ (fun _ => ?_)
set_option maxHeartbeats 8000000 in
set_option maxRecDepth 100000 in
theorem wainloadref16_Size.calls (k : Nat) (A0 : Option Addr) (c0 : Nat) (l0 : List (S44)) (r : Int) (w : World) (hr0 : Kd.C k44 w A0 l0.length l0) (hc0 : l0.length ≤ c0) (h : wainloadref16_Size.f k l0 = some r) :
    Calls Tryz.prog 13 #[.slice A0 l0.length c0] w fun e w' => e = .returned (.int .i64 r) ∧ Drawn0 w w' := by
  have HR0 := Aside0.mk hr0
  have HC0 := Aside0.mk hc0
  clear hr0 hc0
  have H : (wainloadref16_Size.l0 k l0 0 0) = some r := h
  clear h
  have H' := Aside0.mk H
  clear H
  go_enter Tryz.func13, Tryz.ntmps13
  go_wp2
  go_loopg [3, 4] k (fun kq v3 v4 w' => ∃ (x3_1 : Int) (x4_1 : Int), v3 = .int .i64 x3_1 ∧ v4 = .int .i64 x4_1 ∧ Aside0 (wainloadref16_Size.l0 kq l0 x3_1 x4_1 = some r) ∧ Aside0 (kq ≤ k) ∧ Drawn0 w w')
  case atStart => exact ⟨(0), (0), (by first | rfl | (simp; done) | (simp [*]; done)), (by first | rfl | (simp; done) | (simp [*]; done)), H', ⟨Nat.le_refl _⟩, by repeat (first | exact Drawn0.refl _ | apply Drawn0.step)⟩
  case round =>
    clear H'
    try clear c1
    obtain ⟨x3_1, x4_1, rfl, rfl, HA, HK1, ⟨m1, rfl⟩⟩ := hrel
    cases gk with
    | zero => exact absurd HA.out (by simp [wainloadref16_Size.l0])
    | succ k1 =>
      have H := HA.out
      clear HA
      simp only [wainloadref16_Size.l0] at H
      by_cases c2 : x4_1 < (l0.length : Int)
      · rw [if_pos c2] at H
        have c2b0 : decide (x4_1 < (l0.length : Int)) = true := decide_eq_true c2
        clear c2
        by_cases c3 : 0 ≤ x4_1
        · rw [if_pos c3] at H
          have c3b0 : decide (0 ≤ x4_1) = true := decide_eq_true c3
          clear c3
          have H' := Aside0.mk H
          clear H
          have p101 : 0 ≤ (x4_1 : Int) := of_decide_eq_true (by first | (with_reducible assumption) | assumption)
          have q101 : x4_1 < (l0.length : Int) := of_decide_eq_true (by first | (with_reducible assumption) | assumption)
          obtain ⟨ad101, e101, hx101_0, hx101_1, hx101_2, hx101_3, hx101_4, hx101_5⟩ := at_T44 HR0.out x4_1 p101 q101
          cases e101
          replace p101 := eq_true p101
          replace q101 := eq_true q101
          go_wp2
          go_roundg k1
          case measure => have := HK1.out; omega
          case rel => exact ⟨(wrap64 (x3_1 + (((rd_T44 l0 x4_1).f5).size : Int))), (wrap64 (x4_1 + 1)), (by first | rfl | (simp; done) | (simp [*]; done)), (by first | rfl | (simp; done) | (simp [*]; done)), H', ⟨by have := HK1.out; omega⟩, by repeat (first | exact Drawn0.refl _ | apply Drawn0.step)⟩
        · rw [if_neg c3] at H
          exact absurd H (by simp)
      · rw [if_neg c2] at H
        have c2b0 : decide (x4_1 < (l0.length : Int)) = false := decide_eq_false c2
        clear c2
        obtain rfl := Option.some.inj H
        go_wp2
        go_ret
        exact ⟨by first | rfl | (simp; done) | (simp [*]; done), by repeat (first | exact Drawn0.refl _ | apply Drawn0.step)⟩


end Go.Proofs.YtkmcbpkciakmeaaGreatDoor.PA

namespace Go.Proofs.YtkmcbpkciakmeaaGreatDoor.PA
open Go.RowKit Go.Proofs.YtkmcbpkciakmeaaGreatDoorW.PrintWords Go.Proofs.YtkmcbpkciakmeaaGreatDoorW.PrintLast Go.Proofs.YtkmcbpkciakmeaaGreatDoorW.PrintMore
attribute [local go_sem] max2_int min2_int max_two min_two max_three min_three max_four min_four   -- for this text's walks alone
set_option linter.unusedVariables false
set_option linter.unusedSimpArgs false
attribute [local go_sem high] binOp_string_gtr_lt

/-! ### wainloadlaw17_few: function 9 -/
def wainloadlaw17_few.f (k : Nat) (l0 : List (S44)) : Option (Bool) := if (l0.length : Int) ≤ 60 then ((wainloadref16_Size.f k l0).bind fun t102 => (some (decide (t102 ≤ 100000)))) else (some false)
theorem wainloadlaw17_few.mono : ∀ a0 k, LeO (wainloadlaw17_few.f k a0) (wainloadlaw17_few.f (k + 1) a0) := by
  intro a0 k
  unfold wainloadlaw17_few.f
  repeat' first
      | (with_reducible exact wainloadref16_Size.mono _ _)
      | (with_reducible exact LeO.refl _)
      | (with_reducible exact LeO.none _)
      | (with_reducible refine LeO.ite ?_ ?_)
      | (with_reducible refine LeO.bind ?_ (fun _ => ?_))
      | exact wainloadref16_Size.mono _ _
      | exact LeO.none _
      | refine LeO.ite ?_ ?_
      | refine LeO.bind ?_ (fun _ => ?_)
set_option maxHeartbeats 8000000 in
set_option maxRecDepth 100000 in
theorem wainloadlaw17_few.calls (k : Nat) (A0 : Option Addr) (c0 : Nat) (l0 : List (S44)) (r : Bool) (w : World) (hr0 : Kd.C k44 w A0 l0.length l0) (hc0 : l0.length ≤ c0) (h : wainloadlaw17_few.f k l0 = some r) :
    Calls Tryz.prog 9 #[.slice A0 l0.length c0] w fun e w' => e = .returned (.bool r) ∧ Drawn0 w w' := by
  have HR0 := Aside0.mk hr0
  have HC0 := Aside0.mk hc0
  clear hr0 hc0
  have H : (if (l0.length : Int) ≤ 60 then ((wainloadref16_Size.f k l0).bind fun t102 => (some (decide (t102 ≤ 100000)))) else (some false)) = some r := h
  clear h
  by_cases c2 : (l0.length : Int) ≤ 60
  · rw [if_pos c2] at H
    have c2b0 : decide ((l0.length : Int) ≤ 60) = true := decide_eq_true c2
    have c2b1 : decide (l0.length ≤ 60) = true := decide_eq_true (by omega)
    clear c2
    replace H := Option.bind_eq_some_iff.mp H
    obtain ⟨t102, A30, H⟩ := H
    replace H : (some (decide (t102 ≤ 100000))) = some r := H
    have A3 := Aside0.mk A30
    clear A30
    obtain rfl := Option.some.inj H
    go_enter Tryz.func9, Tryz.ntmps9
    go_wp2_with (first | (go_at_call 13; (with_reducible refine (wainloadref16_Size.calls k _ _ l0 t102 _ ?side1 ?side2 A3.out).mono ?_); (case side1 => repeat (first | exact HR0.out | (with_reducible refine Kd.C_alloc ?_ _) | (with_reducible refine Kd.C_drewN ?_ _) | (with_reducible refine Kd.C_drew ?_))); (case side2 => exact HC0.out); rintro e w' ⟨rfl, ⟨nd, rfl⟩⟩))
    go_ret
    exact ⟨by first | rfl | (simp; done) | (simp [*]; done), by repeat (first | exact Drawn0.refl _ | apply Drawn0.step)⟩
  · rw [if_neg c2] at H
    have c2b0 : decide ((l0.length : Int) ≤ 60) = false := decide_eq_false c2
    have c2b1 : decide (l0.length ≤ 60) = false := decide_eq_false (by omega)
    clear c2
    obtain rfl := Option.some.inj H
    go_enter Tryz.func9, Tryz.ntmps9
    go_wp2
    go_ret
    exact ⟨by first | rfl | (simp; done) | (simp [*]; done), by repeat (first | exact Drawn0.refl _ | apply Drawn0.step)⟩


end Go.Proofs.YtkmcbpkciakmeaaGreatDoor.PA

namespace Go.Proofs.YtkmcbpkciakmeaaGreatDoor.PA
open Go.RowKit Go.Proofs.YtkmcbpkciakmeaaGreatDoorW.PrintWords Go.Proofs.YtkmcbpkciakmeaaGreatDoorW.PrintLast Go.Proofs.YtkmcbpkciakmeaaGreatDoorW.PrintMore
attribute [local go_sem] max2_int min2_int max_two min_two max_three min_three max_four min_four   -- for this text's walks alone
set_option linter.unusedVariables false
set_option linter.unusedSimpArgs false
attribute [local go_sem high] binOp_string_gtr_lt

/-! ### wainloadref16_Sort: function 20 -/
mutual
def wainloadref16_Sort.l0 : Nat → List (S44) → List (S44) → Int → Option ((List (S44)))
  | 0, _, _, _ => none
  | k + 1, x0, x3, x4 => if x4 < (x0.length : Int) then (wainloadref16_Sort.l1 k x0 x3 x4 ([] : List (S44)) false 0) else (some x3)
def wainloadref16_Sort.l1 : Nat → List (S44) → List (S44) → Int → List (S44) → Bool → Int → Option ((List (S44)))
  | 0, _, _, _, _, _, _ => none
  | k + 1, x0, x3, x4, x5, x6, x7 => if x7 < (x3.length : Int) then (if x6 = true then (if 0 ≤ x7 then (if x5.length < 1954687338268 then (wainloadref16_Sort.l1 k x0 x3 x4 (x5 ++ [(⟨(rd_T44 x3 x7).f0, (rd_T44 x3 x7).f1, (rd_T44 x3 x7).f2, (rd_T44 x3 x7).f3, (rd_T44 x3 x7).f4, (rd_T44 x3 x7).f5⟩ : S44)]) x6 (wrap64 (x7 + 1))) else (none)) else (none)) else (if 0 ≤ x7 then (if 0 ≤ x4 then (if x4 < (x0.length : Int) then (if (Op.bytesLess (((rd_T44 x0 x4).f1).toList) (((rd_T44 x3 x7).f1).toList)) = true then (if x5.length < 1954687338268 then ((some (x5 ++ [(⟨(rd_T44 x0 x4).f0, (rd_T44 x0 x4).f1, (rd_T44 x0 x4).f2, (rd_T44 x0 x4).f3, (rd_T44 x0 x4).f4, (rd_T44 x0 x4).f5⟩ : S44)] : List (S44))).bind fun y318 => (if y318.length < 1954687338268 then (wainloadref16_Sort.l1 k x0 x3 x4 (y318 ++ [(⟨(rd_T44 x3 x7).f0, (rd_T44 x3 x7).f1, (rd_T44 x3 x7).f2, (rd_T44 x3 x7).f3, (rd_T44 x3 x7).f4, (rd_T44 x3 x7).f5⟩ : S44)]) true (wrap64 (x7 + 1))) else (none))) else (none)) else (if x5.length < 1954687338268 then (wainloadref16_Sort.l1 k x0 x3 x4 (x5 ++ [(⟨(rd_T44 x3 x7).f0, (rd_T44 x3 x7).f1, (rd_T44 x3 x7).f2, (rd_T44 x3 x7).f3, (rd_T44 x3 x7).f4, (rd_T44 x3 x7).f5⟩ : S44)]) x6 (wrap64 (x7 + 1))) else (none))) else (none)) else (none)) else (none))) else (if x6 = true then (wainloadref16_Sort.l0 k x0 x5 (wrap64 (x4 + 1))) else (if 0 ≤ x4 then (if x4 < (x0.length : Int) then (if x5.length < 1954687338268 then (wainloadref16_Sort.l0 k x0 (x5 ++ [(⟨(rd_T44 x0 x4).f0, (rd_T44 x0 x4).f1, (rd_T44 x0 x4).f2, (rd_T44 x0 x4).f3, (rd_T44 x0 x4).f4, (rd_T44 x0 x4).f5⟩ : S44)]) (wrap64 (x4 + 1))) else (none)) else (none)) else (none)))
end
def wainloadref16_Sort.f (k : Nat) (l0 : List (S44)) : Option ((List (S44))) := wainloadref16_Sort.l0 k l0 ([] : List (S44)) 0
theorem wainloadref16_Sort.mono_l : ∀ k, (∀ y0 y1 y2, LeO (wainloadref16_Sort.l0 k y0 y1 y2) (wainloadref16_Sort.l0 (k + 1) y0 y1 y2)) ∧ (∀ y0 y1 y2 y3 y4 y5, LeO (wainloadref16_Sort.l1 k y0 y1 y2 y3 y4 y5) (wainloadref16_Sort.l1 (k + 1) y0 y1 y2 y3 y4 y5))
  | 0 => ⟨fun _ _ _ r h => by simp [wainloadref16_Sort.l0] at h, fun _ _ _ _ _ _ r h => by simp [wainloadref16_Sort.l1] at h⟩
  | k + 1 => by
    obtain ⟨ih0, ih1⟩ := wainloadref16_Sort.mono_l k
    refine ⟨?_, ?_⟩
    · intro y0 y1 y2
      unfold wainloadref16_Sort.l0
      repeat' first
      | (with_reducible exact ih0 _ _ _)
      | (with_reducible exact ih1 _ _ _ _ _ _)
      | (with_reducible exact LeO.refl _)
      | (with_reducible exact LeO.none _)
      | (with_reducible refine LeO.ite ?_ ?_)
      | (with_reducible refine LeO.bind ?_ (fun _ => ?_))
      | exact ih0 _ _ _
      | exact ih1 _ _ _ _ _ _
      | exact LeO.none _
      | refine LeO.ite ?_ ?_
      | refine LeO.bind ?_ (fun _ => ?_)
    · intro y0 y1 y2 y3 y4 y5
      unfold wainloadref16_Sort.l1
      repeat' first
      | (with_reducible exact ih0 _ _ _)
      | (with_reducible exact ih1 _ _ _ _ _ _)
      | (with_reducible exact LeO.refl _)
      | (with_reducible exact LeO.none _)
      | (with_reducible refine LeO.ite ?_ ?_)
      | (with_reducible refine LeO.bind ?_ (fun _ => ?_))
      | exact ih0 _ _ _
      | exact ih1 _ _ _ _ _ _
      | exact LeO.none _
      | refine LeO.ite ?_ ?_
      | refine LeO.bind ?_ (fun _ => ?_)
theorem wainloadref16_Sort.mono : ∀ a0 k, LeO (wainloadref16_Sort.f k a0) (wainloadref16_Sort.f (k + 1) a0) := by
  intro a0 k
  obtain ⟨ih0, ih1⟩ := wainloadref16_Sort.mono_l k
  unfold wainloadref16_Sort.f
  repeat' first
      | (with_reducible exact ih0 _ _ _)
      | (with_reducible exact ih1 _ _ _ _ _ _)
      | (with_reducible exact LeO.refl _)
      | (with_reducible exact LeO.none _)
      | (with_reducible refine LeO.ite ?_ ?_)
      | (with_reducible refine LeO.bind ?_ (fun _ => ?_))
      | exact ih0 _ _ _
      | exact ih1 _ _ _ _ _ _
      | exact LeO.none _
      | refine LeO.ite ?_ ?_
      | refine LeO.bind ?_ (fun _ => ?_)
set_option maxHeartbeats 8000000 in
set_option maxRecDepth 100000 in
theorem wainloadref16_Sort.calls (k : Nat) (A0 : Option Addr) (c0 : Nat) (l0 : List (S44)) (r : List (S44)) (w : World) (hr0 : Kd.C k44 w A0 l0.length l0) (hc0 : l0.length ≤ c0) (h : wainloadref16_Sort.f k l0 = some r) :
    Calls Tryz.prog 20 #[.slice A0 l0.length c0] w fun e w' => ∃ v0_ : Value, e = .returned (v0_) ∧ Kd.R k44 44 w' w.heap.size (fun _ => True) v0_ r ∧ Below w.heap.size w w' := by
  have hu44 := Tryz.underlying44
  have HR0 := Aside0.mk hr0
  have HC0 := Aside0.mk hc0
  clear hr0 hc0
  have HB := Aside0.mk (Below.refl w.heap.size w)
  have H : (wainloadref16_Sort.l0 k l0 ([] : List (S44)) 0) = some r := h
  clear h
  have H' := Aside0.mk H
  clear H
  go_enter Tryz.func20, Tryz.ntmps20
  go_wp2
  repeat (go_quiet (fail); try go_wp2)
  go_loopg [3, 4] k (fun kq v3 v4 w' => ∃ (x3_1 : List (S44)) (x4_1 : Int), v4 = .int .i64 x4_1 ∧ Aside0 (wainloadref16_Sort.l0 kq l0 x3_1 x4_1 = some r) ∧ Aside0 (kq ≤ k) ∧ Aside0 (Kd.R k44 44 w' w.heap.size (fun _ => True) v3 x3_1) ∧ Aside0 (Below w.heap.size w w'))
  case atStart => exact ⟨(([] : List (S44))), (0), (by first | rfl | (simp; done) | (simp [*]; done)), H', ⟨Nat.le_refl _⟩, ⟨by first | exact Kd.R_nil _ _ _ _ _ | exact Kd.N_nil _ _ _ _ _ | exact Kd.V_nil _ _ _ _ _ | exact Kd.Q_nil _ _ _ _ _ | exact Kd.S_nil _ _ _ _ _⟩, ⟨by repeat (first | (with_reducible first | exact HB.out | apply below_alloc | apply pw_below_drewN | apply below_drew1) | exact HB.out)⟩⟩
  case round =>
    clear H'
    obtain ⟨x3_1, x4_1, rfl, HA, HK1, HO_3, HB⟩ := hrel
    cases gk with
    | zero => exact absurd HA.out (by simp [wainloadref16_Sort.l0])
    | succ k1 =>
      have H := HA.out
      clear HA
      simp only [wainloadref16_Sort.l0] at H
      by_cases c2 : x4_1 < (l0.length : Int)
      · rw [if_pos c2] at H
        have c2b0 : decide (x4_1 < (l0.length : Int)) = true := decide_eq_true c2
        clear c2
        have H' := Aside0.mk H
        clear H
        go_wp2
        repeat (go_quiet (fail); try go_wp2)
        go_loopg [5, 6, 7] k1 (fun kq v5 v6 v7 w' => ∃ (x5_2 : List (S44)) (x6_2 : Bool) (x7_2 : Int), v6 = .bool x6_2 ∧ v7 = .int .i64 x7_2 ∧ Aside0 (wainloadref16_Sort.l1 kq l0 x3_1 x4_1 x5_2 x6_2 x7_2 = some r) ∧ Aside0 (kq ≤ k1) ∧ Aside0 (Kd.R k44 44 w' w.heap.size (fun k_ => some k_ ≠ (v5 : Value).ownBlock) u3 x3_1) ∧ Aside0 (Kd.R k44 44 w' w.heap.size (fun k_ => some k_ ≠ (u3 : Value).ownBlock) v5 x5_2) ∧ Aside0 (Below w.heap.size w w'))
        case atStart => exact ⟨(([] : List (S44))), (false), (0), (by first | rfl | (simp; done) | (simp [*]; done)), (by first | rfl | (simp; done) | (simp [*]; done)), H', ⟨Nat.le_refl _⟩, ⟨by (with_reducible repeat (first | apply Kd.R_alloc | apply Kd.R_drewN | apply Kd.R_drew)); exact Kd.R_mono HO_3.out (fun _ hk => (by simp [Value.ownBlock]))⟩, ⟨by first | exact Kd.R_nil _ _ _ _ _ | exact Kd.N_nil _ _ _ _ _ | exact Kd.V_nil _ _ _ _ _ | exact Kd.Q_nil _ _ _ _ _ | exact Kd.S_nil _ _ _ _ _⟩, ⟨by repeat (first | (with_reducible first | exact HB.out | apply below_alloc | apply pw_below_drewN | apply below_drew1) | exact HB.out)⟩⟩
        case round =>
          clear H'
          try clear c2
          try clear c2b0
          try clear p2
          obtain ⟨x5_2, x6_2, x7_2, rfl, rfl, HA, HK2, HO_3, HO_5, HB⟩ := hrel
          cases gk with
          | zero => exact absurd HA.out (by simp [wainloadref16_Sort.l1])
          | succ k2 =>
            have H := HA.out
            clear HA
            simp only [wainloadref16_Sort.l1] at H
            by_cases c3 : x7_2 < (x3_1.length : Int)
            · rw [if_pos c3] at H
              have c3b0 : decide (x7_2 < (x3_1.length : Int)) = true := decide_eq_true c3
              clear c3
              by_cases c4 : x6_2 = true
              · subst c4
                have H1 : (if 0 ≤ x7_2 then (if x5_2.length < 1954687338268 then (wainloadref16_Sort.l1 k2 l0 x3_1 x4_1 (x5_2 ++ [(⟨(rd_T44 x3_1 x7_2).f0, (rd_T44 x3_1 x7_2).f1, (rd_T44 x3_1 x7_2).f2, (rd_T44 x3_1 x7_2).f3, (rd_T44 x3_1 x7_2).f4, (rd_T44 x3_1 x7_2).f5⟩ : S44)]) true (wrap64 (x7_2 + 1))) else (none)) else (none)) = some r := by rw [if_pos rfl] at H; exact H
                clear H
                have H := H1
                clear H1
                by_cases c5 : 0 ≤ x7_2
                · rw [if_pos c5] at H
                  have c5b0 : decide (0 ≤ x7_2) = true := decide_eq_true c5
                  clear c5
                  by_cases c6 : x5_2.length < 1954687338268
                  · rw [if_pos c6] at H
                    have LMc6 := Aside0.mk c6
                    clear c6
                    obtain ⟨y312, hy312⟩ : ∃ y_ : List (S44), y_ = (x5_2 ++ [(⟨(rd_T44 x3_1 x7_2).f0, (rd_T44 x3_1 x7_2).f1, (rd_T44 x3_1 x7_2).f2, (rd_T44 x3_1 x7_2).f3, (rd_T44 x3_1 x7_2).f4, (rd_T44 x3_1 x7_2).f5⟩ : S44)]) := ⟨_, rfl⟩
                    replace H : (wainloadref16_Sort.l1 k2 l0 x3_1 x4_1 y312 true (wrap64 (x7_2 + 1))) = some r := by first | (rw [hy312]; with_reducible exact H) | (have H2_ := (Option.bind_some _ _).symm.trans H; rw [hy312]; with_reducible exact H2_) | (have H2_ := (Option.bind_some _ _).symm.trans H; with_reducible exact H2_) | with_reducible exact H | (rw [hy312]; exact H) | exact H
                    have Ny312 := Aside0.mk hy312
                    clear hy312
                    have H' := Aside0.mk H
                    clear H
                    obtain ⟨Ao7, co7, eo7⟩ := Kd.R_slice HO_3.out
                    subst eo7
                    have p311 : 0 ≤ (x7_2 : Int) := of_decide_eq_true (by first | (with_reducible assumption) | assumption)
                    have q311 : x7_2 < (x3_1.length : Int) := of_decide_eq_true (by first | (with_reducible assumption) | assumption)
                    obtain ⟨ad311, e311, hx311_0, hx311_1, hx311_2, hx311_3, hx311_4, hx311_5⟩ := at_T44 (Kd.R_reads' HO_3.out).2.2 x7_2 p311 q311
                    cases e311
                    replace p311 := eq_true p311
                    replace q311 := eq_true q311
                    go_wp2_with (first | ((with_reducible refine gate_builtin (b := .append) (xs := #[.tmp 42, .tmp 47]) rfl ?_); at_builtin; refine Kd.R_append k44 (w0 := w) w.heap.size rfl (.tmp 42) (.tmp 47) 22 44 (.agg #[(.int .i64 0), (.string ⟨#[]⟩), (.string ⟨#[]⟩), (.int .i64 0), (.int .i64 0), (.string ⟨#[]⟩)]) 72 rfl Tryz.underlying22 info44 rfl (by decide) (by omega) u5 x5_2 (⟨(rd_T44 x3_1 x7_2).f0, (rd_T44 x3_1 x7_2).f1, (rd_T44 x3_1 x7_2).f2, (rd_T44 x3_1 x7_2).f3, (rd_T44 x3_1 x7_2).f4, (rd_T44 x3_1 x7_2).f5⟩ : S44) [.int .i64 ((rd_T44 x3_1 x7_2).f0), .string ((rd_T44 x3_1 x7_2).f1), .string ((rd_T44 x3_1 x7_2).f2), .int .i64 ((rd_T44 x3_1 x7_2).f3), .int .i64 ((rd_T44 x3_1 x7_2).f4), .string ((rd_T44 x3_1 x7_2).f5)] (fun k_ => some k_ ≠ (.slice (some ad311) x3_1.length co7 : Value).ownBlock) (fun _ => False) rfl rfl ?aP (fun _ hk => hk.elim) ?aF ?aO ?aB ?aS ?aL ?_; (case aP => exact k44_mkM _ _ _ (⟨(rd_T44 x3_1 x7_2).f0, (rd_T44 x3_1 x7_2).f1, (rd_T44 x3_1 x7_2).f2, (rd_T44 x3_1 x7_2).f3, (rd_T44 x3_1 x7_2).f4, (rd_T44 x3_1 x7_2).f5⟩ : S44)); (case aB => exact (by repeat (first | (with_reducible first | exact HB.out | apply below_alloc | apply pw_below_drewN | apply below_drew1) | exact HB.out))); (case aF => exact (fun k_ hk => Kd.fresh' (Kd.R_lt (by (with_reducible repeat (first | apply Kd.R_alloc | apply Kd.R_drewN | apply Kd.R_drew)); exact HO_3.out)) k_ hk)); (case aO => exact (by (with_reducible repeat (first | apply Kd.R_alloc | apply Kd.R_drewN | apply Kd.R_drew)); exact HO_5.out)); (case aS => exact (below_size (by repeat (first | (with_reducible first | exact HB.out | apply below_alloc | apply pw_below_drewN | apply below_drew1) | exact HB.out)))); (case aL => have := LMc6.out; omega); intro v313 w8 ho hb hg hat; rw [← Ny312.out] at ho; have n0_ := Aside0.mk (Kd.R_after (ok := (fun _ => True)) (by (with_reducible repeat (first | apply Kd.R_alloc | apply Kd.R_drewN | apply Kd.R_drew)); exact Kd.R_mono HO_3.out (fun _ hk => ⟨trivial, hk⟩)) hg hat); have n1_ := Aside0.mk (hb); have n2_ := Aside0.mk (ho); clear HO_3; clear HB; clear HO_5; have HO_3 := n0_; have HB := n1_; have HO314 := n2_; clear n0_ n1_ n2_; clear ho hb hg hat))
                    repeat (go_quiet (first | ((with_reducible refine gate_builtin (b := .append) (xs := #[.tmp 42, .tmp 47]) rfl ?_); at_builtin; refine Kd.R_append k44 (w0 := w) w.heap.size rfl (.tmp 42) (.tmp 47) 22 44 (.agg #[(.int .i64 0), (.string ⟨#[]⟩), (.string ⟨#[]⟩), (.int .i64 0), (.int .i64 0), (.string ⟨#[]⟩)]) 72 rfl Tryz.underlying22 info44 rfl (by decide) (by omega) u5 x5_2 (⟨(rd_T44 x3_1 x7_2).f0, (rd_T44 x3_1 x7_2).f1, (rd_T44 x3_1 x7_2).f2, (rd_T44 x3_1 x7_2).f3, (rd_T44 x3_1 x7_2).f4, (rd_T44 x3_1 x7_2).f5⟩ : S44) [.int .i64 ((rd_T44 x3_1 x7_2).f0), .string ((rd_T44 x3_1 x7_2).f1), .string ((rd_T44 x3_1 x7_2).f2), .int .i64 ((rd_T44 x3_1 x7_2).f3), .int .i64 ((rd_T44 x3_1 x7_2).f4), .string ((rd_T44 x3_1 x7_2).f5)] (fun k_ => some k_ ≠ (.slice (some ad311) x3_1.length co7 : Value).ownBlock) (fun _ => False) rfl rfl ?aP (fun _ hk => hk.elim) ?aF ?aO ?aB ?aS ?aL ?_; (case aP => exact k44_mkM _ _ _ (⟨(rd_T44 x3_1 x7_2).f0, (rd_T44 x3_1 x7_2).f1, (rd_T44 x3_1 x7_2).f2, (rd_T44 x3_1 x7_2).f3, (rd_T44 x3_1 x7_2).f4, (rd_T44 x3_1 x7_2).f5⟩ : S44)); (case aB => exact (by repeat (first | (with_reducible first | exact HB.out | apply below_alloc | apply pw_below_drewN | apply below_drew1) | exact HB.out))); (case aF => exact (fun k_ hk => Kd.fresh' (Kd.R_lt (by (with_reducible repeat (first | apply Kd.R_alloc | apply Kd.R_drewN | apply Kd.R_drew)); exact HO_3.out)) k_ hk)); (case aO => exact (by (with_reducible repeat (first | apply Kd.R_alloc | apply Kd.R_drewN | apply Kd.R_drew)); exact HO_5.out)); (case aS => exact (below_size (by repeat (first | (with_reducible first | exact HB.out | apply below_alloc | apply pw_below_drewN | apply below_drew1) | exact HB.out)))); (case aL => have := LMc6.out; omega); intro v313 w8 ho hb hg hat; rw [← Ny312.out] at ho; have n0_ := Aside0.mk (Kd.R_after (ok := (fun _ => True)) (by (with_reducible repeat (first | apply Kd.R_alloc | apply Kd.R_drewN | apply Kd.R_drew)); exact Kd.R_mono HO_3.out (fun _ hk => ⟨trivial, hk⟩)) hg hat); have n1_ := Aside0.mk (hb); have n2_ := Aside0.mk (ho); clear HO_3; clear HB; clear HO_5; have HO_3 := n0_; have HB := n1_; have HO314 := n2_; clear n0_ n1_ n2_; clear ho hb hg hat)); try go_wp2_with (first | ((with_reducible refine gate_builtin (b := .append) (xs := #[.tmp 42, .tmp 47]) rfl ?_); at_builtin; refine Kd.R_append k44 (w0 := w) w.heap.size rfl (.tmp 42) (.tmp 47) 22 44 (.agg #[(.int .i64 0), (.string ⟨#[]⟩), (.string ⟨#[]⟩), (.int .i64 0), (.int .i64 0), (.string ⟨#[]⟩)]) 72 rfl Tryz.underlying22 info44 rfl (by decide) (by omega) u5 x5_2 (⟨(rd_T44 x3_1 x7_2).f0, (rd_T44 x3_1 x7_2).f1, (rd_T44 x3_1 x7_2).f2, (rd_T44 x3_1 x7_2).f3, (rd_T44 x3_1 x7_2).f4, (rd_T44 x3_1 x7_2).f5⟩ : S44) [.int .i64 ((rd_T44 x3_1 x7_2).f0), .string ((rd_T44 x3_1 x7_2).f1), .string ((rd_T44 x3_1 x7_2).f2), .int .i64 ((rd_T44 x3_1 x7_2).f3), .int .i64 ((rd_T44 x3_1 x7_2).f4), .string ((rd_T44 x3_1 x7_2).f5)] (fun k_ => some k_ ≠ (.slice (some ad311) x3_1.length co7 : Value).ownBlock) (fun _ => False) rfl rfl ?aP (fun _ hk => hk.elim) ?aF ?aO ?aB ?aS ?aL ?_; (case aP => exact k44_mkM _ _ _ (⟨(rd_T44 x3_1 x7_2).f0, (rd_T44 x3_1 x7_2).f1, (rd_T44 x3_1 x7_2).f2, (rd_T44 x3_1 x7_2).f3, (rd_T44 x3_1 x7_2).f4, (rd_T44 x3_1 x7_2).f5⟩ : S44)); (case aB => exact (by repeat (first | (with_reducible first | exact HB.out | apply below_alloc | apply pw_below_drewN | apply below_drew1) | exact HB.out))); (case aF => exact (fun k_ hk => Kd.fresh' (Kd.R_lt (by (with_reducible repeat (first | apply Kd.R_alloc | apply Kd.R_drewN | apply Kd.R_drew)); exact HO_3.out)) k_ hk)); (case aO => exact (by (with_reducible repeat (first | apply Kd.R_alloc | apply Kd.R_drewN | apply Kd.R_drew)); exact HO_5.out)); (case aS => exact (below_size (by repeat (first | (with_reducible first | exact HB.out | apply below_alloc | apply pw_below_drewN | apply below_drew1) | exact HB.out)))); (case aL => have := LMc6.out; omega); intro v313 w8 ho hb hg hat; rw [← Ny312.out] at ho; have n0_ := Aside0.mk (Kd.R_after (ok := (fun _ => True)) (by (with_reducible repeat (first | apply Kd.R_alloc | apply Kd.R_drewN | apply Kd.R_drew)); exact Kd.R_mono HO_3.out (fun _ hk => ⟨trivial, hk⟩)) hg hat); have n1_ := Aside0.mk (hb); have n2_ := Aside0.mk (ho); clear HO_3; clear HB; clear HO_5; have HO_3 := n0_; have HB := n1_; have HO314 := n2_; clear n0_ n1_ n2_; clear ho hb hg hat)))
                    go_roundg k2
                    case measure => have := HK1.out; have := HK2.out; omega
                    case rel => exact ⟨(y312), (true), (wrap64 (x7_2 + 1)), (by first | rfl | (simp; done) | (simp [*]; done)), (by first | rfl | (simp; done) | (simp [*]; done)), H', ⟨by have := HK1.out; have := HK2.out; omega⟩, ⟨by (with_reducible repeat (first | apply Kd.R_alloc | apply Kd.R_drewN | apply Kd.R_drew)); exact Kd.R_mono HO_3.out (fun _ hk => hk.2)⟩, ⟨by (with_reducible repeat (first | apply Kd.R_alloc | apply Kd.R_drewN | apply Kd.R_drew)); exact HO314.out⟩, ⟨by repeat (first | (with_reducible first | exact HB.out | apply below_alloc | apply pw_below_drewN | apply below_drew1) | exact HB.out)⟩⟩
                  · rw [if_neg c6] at H
                    exact absurd H (by simp)
                · rw [if_neg c5] at H
                  exact absurd H (by simp)
              · replace c4 := Bool.eq_false_iff.mpr c4
                subst c4
                have H1 : (if 0 ≤ x7_2 then (if 0 ≤ x4_1 then (if x4_1 < (l0.length : Int) then (if (Op.bytesLess (((rd_T44 l0 x4_1).f1).toList) (((rd_T44 x3_1 x7_2).f1).toList)) = true then (if x5_2.length < 1954687338268 then ((some (x5_2 ++ [(⟨(rd_T44 l0 x4_1).f0, (rd_T44 l0 x4_1).f1, (rd_T44 l0 x4_1).f2, (rd_T44 l0 x4_1).f3, (rd_T44 l0 x4_1).f4, (rd_T44 l0 x4_1).f5⟩ : S44)] : List (S44))).bind fun y318 => (if y318.length < 1954687338268 then (wainloadref16_Sort.l1 k2 l0 x3_1 x4_1 (y318 ++ [(⟨(rd_T44 x3_1 x7_2).f0, (rd_T44 x3_1 x7_2).f1, (rd_T44 x3_1 x7_2).f2, (rd_T44 x3_1 x7_2).f3, (rd_T44 x3_1 x7_2).f4, (rd_T44 x3_1 x7_2).f5⟩ : S44)]) true (wrap64 (x7_2 + 1))) else (none))) else (none)) else (if x5_2.length < 1954687338268 then (wainloadref16_Sort.l1 k2 l0 x3_1 x4_1 (x5_2 ++ [(⟨(rd_T44 x3_1 x7_2).f0, (rd_T44 x3_1 x7_2).f1, (rd_T44 x3_1 x7_2).f2, (rd_T44 x3_1 x7_2).f3, (rd_T44 x3_1 x7_2).f4, (rd_T44 x3_1 x7_2).f5⟩ : S44)]) false (wrap64 (x7_2 + 1))) else (none))) else (none)) else (none)) else (none)) = some r := by rw [if_neg (show ¬ (false = true) by decide)] at H; exact H
                clear H
                have H := H1
                clear H1
                by_cases c9 : 0 ≤ x7_2
                · rw [if_pos c9] at H
                  have c9b0 : decide (0 ≤ x7_2) = true := decide_eq_true c9
                  clear c9
                  by_cases c10 : 0 ≤ x4_1
                  · rw [if_pos c10] at H
                    have c10b0 : decide (0 ≤ x4_1) = true := decide_eq_true c10
                    clear c10
                    by_cases c11 : x4_1 < (l0.length : Int)
                    · rw [if_pos c11] at H
                      have c11b0 : decide (x4_1 < (l0.length : Int)) = true := decide_eq_true c11
                      clear c11
                      by_cases c12 : (Op.bytesLess (((rd_T44 l0 x4_1).f1).toList) (((rd_T44 x3_1 x7_2).f1).toList)) = true
                      · rw [if_pos c12] at H
                        have c12b0 : (Op.bytesLess (((rd_T44 l0 x4_1).f1).toList) (((rd_T44 x3_1 x7_2).f1).toList)) = true := c12
                        clear c12
                        by_cases c13 : x5_2.length < 1954687338268
                        · rw [if_pos c13] at H
                          have LMc13 := Aside0.mk c13
                          clear c13
                          obtain ⟨y318, hy318⟩ : ∃ y_ : List (S44), y_ = (x5_2 ++ [(⟨(rd_T44 l0 x4_1).f0, (rd_T44 l0 x4_1).f1, (rd_T44 l0 x4_1).f2, (rd_T44 l0 x4_1).f3, (rd_T44 l0 x4_1).f4, (rd_T44 l0 x4_1).f5⟩ : S44)]) := ⟨_, rfl⟩
                          replace H : (if y318.length < 1954687338268 then (wainloadref16_Sort.l1 k2 l0 x3_1 x4_1 (y318 ++ [(⟨(rd_T44 x3_1 x7_2).f0, (rd_T44 x3_1 x7_2).f1, (rd_T44 x3_1 x7_2).f2, (rd_T44 x3_1 x7_2).f3, (rd_T44 x3_1 x7_2).f4, (rd_T44 x3_1 x7_2).f5⟩ : S44)]) true (wrap64 (x7_2 + 1))) else (none)) = some r := by first | (rw [hy318]; with_reducible exact H) | (have H2_ := (Option.bind_some _ _).symm.trans H; rw [hy318]; with_reducible exact H2_) | (have H2_ := (Option.bind_some _ _).symm.trans H; with_reducible exact H2_) | with_reducible exact H | (rw [hy318]; exact H) | exact H
                          have Ny318 := Aside0.mk hy318
                          clear hy318
                          by_cases c14 : y318.length < 1954687338268
                          · rw [if_pos c14] at H
                            have LMc14 := Aside0.mk c14
                            clear c14
                            obtain ⟨y322, hy322⟩ : ∃ y_ : List (S44), y_ = (y318 ++ [(⟨(rd_T44 x3_1 x7_2).f0, (rd_T44 x3_1 x7_2).f1, (rd_T44 x3_1 x7_2).f2, (rd_T44 x3_1 x7_2).f3, (rd_T44 x3_1 x7_2).f4, (rd_T44 x3_1 x7_2).f5⟩ : S44)]) := ⟨_, rfl⟩
                            replace H : (wainloadref16_Sort.l1 k2 l0 x3_1 x4_1 y322 true (wrap64 (x7_2 + 1))) = some r := by first | (rw [hy322]; with_reducible exact H) | (have H2_ := (Option.bind_some _ _).symm.trans H; rw [hy322]; with_reducible exact H2_) | (have H2_ := (Option.bind_some _ _).symm.trans H; with_reducible exact H2_) | with_reducible exact H | (rw [hy322]; exact H) | exact H
                            have Ny322 := Aside0.mk hy322
                            clear hy322
                            have H' := Aside0.mk H
                            clear H
                            obtain ⟨Ao15, co15, eo15⟩ := Kd.R_slice HO_3.out
                            subst eo15
                            have p315 : 0 ≤ (x7_2 : Int) := of_decide_eq_true (by first | (with_reducible assumption) | assumption)
                            have q315 : x7_2 < (x3_1.length : Int) := of_decide_eq_true (by first | (with_reducible assumption) | assumption)
                            obtain ⟨ad315, e315, hx315_0, hx315_1, hx315_2, hx315_3, hx315_4, hx315_5⟩ := at_T44 (Kd.R_reads' HO_3.out).2.2 x7_2 p315 q315
                            cases e315
                            replace p315 := eq_true p315
                            replace q315 := eq_true q315
                            have p316 : 0 ≤ (x4_1 : Int) := of_decide_eq_true (by first | (with_reducible assumption) | assumption)
                            have q316 : x4_1 < (l0.length : Int) := of_decide_eq_true (by first | (with_reducible assumption) | assumption)
                            obtain ⟨ad316, e316, hx316_0, hx316_1, hx316_2, hx316_3, hx316_4, hx316_5⟩ := at_T44 HR0.out x4_1 p316 q316
                            cases e316
                            replace hx316_0 := (HB.out.cell (World.block_lt_of_cell? w _ hx316_0)).trans hx316_0
                            replace hx316_1 := (HB.out.cell (World.block_lt_of_cell? w _ hx316_1)).trans hx316_1
                            replace hx316_2 := (HB.out.cell (World.block_lt_of_cell? w _ hx316_2)).trans hx316_2
                            replace hx316_3 := (HB.out.cell (World.block_lt_of_cell? w _ hx316_3)).trans hx316_3
                            replace hx316_4 := (HB.out.cell (World.block_lt_of_cell? w _ hx316_4)).trans hx316_4
                            replace hx316_5 := (HB.out.cell (World.block_lt_of_cell? w _ hx316_5)).trans hx316_5
                            replace p316 := eq_true p316
                            replace q316 := eq_true q316
                            have p317 : 0 ≤ (x4_1 : Int) := of_decide_eq_true (by first | (with_reducible assumption) | assumption)
                            have q317 : x4_1 < (l0.length : Int) := of_decide_eq_true (by first | (with_reducible assumption) | assumption)
                            obtain ⟨ad317, e317, hx317_0, hx317_1, hx317_2, hx317_3, hx317_4, hx317_5⟩ := at_T44 HR0.out x4_1 p317 q317
                            obtain rfl : ad316 = ad317 := (by injection e317)
                            replace hx317_0 := (HB.out.cell (World.block_lt_of_cell? w _ hx317_0)).trans hx317_0
                            replace hx317_1 := (HB.out.cell (World.block_lt_of_cell? w _ hx317_1)).trans hx317_1
                            replace hx317_2 := (HB.out.cell (World.block_lt_of_cell? w _ hx317_2)).trans hx317_2
                            replace hx317_3 := (HB.out.cell (World.block_lt_of_cell? w _ hx317_3)).trans hx317_3
                            replace hx317_4 := (HB.out.cell (World.block_lt_of_cell? w _ hx317_4)).trans hx317_4
                            replace hx317_5 := (HB.out.cell (World.block_lt_of_cell? w _ hx317_5)).trans hx317_5
                            replace p317 := eq_true p317
                            replace q317 := eq_true q317
                            go_wp2_with (first | ((with_reducible refine gate_builtin (b := .append) (xs := #[.tmp 35, .tmp 40]) rfl ?_); at_builtin; refine Kd.R_append k44 (w0 := w) w.heap.size rfl (.tmp 35) (.tmp 40) 22 44 (.agg #[(.int .i64 0), (.string ⟨#[]⟩), (.string ⟨#[]⟩), (.int .i64 0), (.int .i64 0), (.string ⟨#[]⟩)]) 72 rfl Tryz.underlying22 info44 rfl (by decide) (by omega) u5 x5_2 (⟨(rd_T44 l0 x4_1).f0, (rd_T44 l0 x4_1).f1, (rd_T44 l0 x4_1).f2, (rd_T44 l0 x4_1).f3, (rd_T44 l0 x4_1).f4, (rd_T44 l0 x4_1).f5⟩ : S44) [.int .i64 ((rd_T44 l0 x4_1).f0), .string ((rd_T44 l0 x4_1).f1), .string ((rd_T44 l0 x4_1).f2), .int .i64 ((rd_T44 l0 x4_1).f3), .int .i64 ((rd_T44 l0 x4_1).f4), .string ((rd_T44 l0 x4_1).f5)] (fun k_ => some k_ ≠ (.slice (some ad315) x3_1.length co15 : Value).ownBlock) (fun _ => False) rfl rfl ?aP (fun _ hk => hk.elim) ?aF ?aO ?aB ?aS ?aL ?_; (case aP => exact k44_mkM _ _ _ (⟨(rd_T44 l0 x4_1).f0, (rd_T44 l0 x4_1).f1, (rd_T44 l0 x4_1).f2, (rd_T44 l0 x4_1).f3, (rd_T44 l0 x4_1).f4, (rd_T44 l0 x4_1).f5⟩ : S44)); (case aB => exact (by repeat (first | (with_reducible first | exact HB.out | apply below_alloc | apply pw_below_drewN | apply below_drew1) | exact HB.out))); (case aF => exact (fun k_ hk => Kd.fresh' (Kd.R_lt (by (with_reducible repeat (first | apply Kd.R_alloc | apply Kd.R_drewN | apply Kd.R_drew)); exact HO_3.out)) k_ hk)); (case aO => exact (by (with_reducible repeat (first | apply Kd.R_alloc | apply Kd.R_drewN | apply Kd.R_drew)); exact HO_5.out)); (case aS => exact (below_size (by repeat (first | (with_reducible first | exact HB.out | apply below_alloc | apply pw_below_drewN | apply below_drew1) | exact HB.out)))); (case aL => have := LMc13.out; omega); intro v319 w16 ho hb hg hat; rw [← Ny318.out] at ho; have n0_ := Aside0.mk (Kd.R_after (ok := (fun _ => True)) (by (with_reducible repeat (first | apply Kd.R_alloc | apply Kd.R_drewN | apply Kd.R_drew)); exact Kd.R_mono HO_3.out (fun _ hk => ⟨trivial, hk⟩)) hg hat); have n1_ := Aside0.mk (hb); have n2_ := Aside0.mk (ho); clear HO_3; clear HB; clear HO_5; have HO_3 := n0_; have HB := n1_; have HO320 := n2_; clear n0_ n1_ n2_; clear ho hb hg hat; have p321 : 0 ≤ (x7_2 : Int) := of_decide_eq_true (by first | (with_reducible assumption) | assumption); have q321 : x7_2 < (x3_1.length : Int) := of_decide_eq_true (by first | (with_reducible assumption) | assumption); obtain ⟨ad321, e321, hx321_0, hx321_1, hx321_2, hx321_3, hx321_4, hx321_5⟩ := at_T44 (Kd.R_reads' HO_3.out).2.2 x7_2 p321 q321; obtain rfl : ad315 = ad321 := (by injection e321); replace p321 := eq_true p321; replace q321 := eq_true q321) | ((with_reducible refine gate_builtin (b := .append) (xs := #[.tmp 42, .tmp 47]) rfl ?_); at_builtin; refine Kd.R_append k44 (w0 := w) w.heap.size rfl (.tmp 42) (.tmp 47) 22 44 (.agg #[(.int .i64 0), (.string ⟨#[]⟩), (.string ⟨#[]⟩), (.int .i64 0), (.int .i64 0), (.string ⟨#[]⟩)]) 72 rfl Tryz.underlying22 info44 rfl (by decide) (by omega) v319 y318 (⟨(rd_T44 x3_1 x7_2).f0, (rd_T44 x3_1 x7_2).f1, (rd_T44 x3_1 x7_2).f2, (rd_T44 x3_1 x7_2).f3, (rd_T44 x3_1 x7_2).f4, (rd_T44 x3_1 x7_2).f5⟩ : S44) [.int .i64 ((rd_T44 x3_1 x7_2).f0), .string ((rd_T44 x3_1 x7_2).f1), .string ((rd_T44 x3_1 x7_2).f2), .int .i64 ((rd_T44 x3_1 x7_2).f3), .int .i64 ((rd_T44 x3_1 x7_2).f4), .string ((rd_T44 x3_1 x7_2).f5)] (fun k_ => some k_ ≠ (.slice (some ad315) x3_1.length co15 : Value).ownBlock) (fun _ => False) rfl rfl ?aP (fun _ hk => hk.elim) ?aF ?aO ?aB ?aS ?aL ?_; (case aP => exact k44_mkM _ _ _ (⟨(rd_T44 x3_1 x7_2).f0, (rd_T44 x3_1 x7_2).f1, (rd_T44 x3_1 x7_2).f2, (rd_T44 x3_1 x7_2).f3, (rd_T44 x3_1 x7_2).f4, (rd_T44 x3_1 x7_2).f5⟩ : S44)); (case aB => exact (by repeat (first | (with_reducible first | exact HB.out | apply below_alloc | apply pw_below_drewN | apply below_drew1) | exact HB.out))); (case aF => exact (fun k_ hk => Kd.fresh' (Kd.R_lt (by (with_reducible repeat (first | apply Kd.R_alloc | apply Kd.R_drewN | apply Kd.R_drew)); exact HO_3.out)) k_ hk)); (case aO => exact (by (with_reducible repeat (first | apply Kd.R_alloc | apply Kd.R_drewN | apply Kd.R_drew)); exact HO320.out)); (case aS => exact (below_size (by repeat (first | (with_reducible first | exact HB.out | apply below_alloc | apply pw_below_drewN | apply below_drew1) | exact HB.out)))); (case aL => have := LMc14.out; omega); intro v323 w17 ho hb hg hat; rw [← Ny322.out] at ho; have n0_ := Aside0.mk (Kd.R_after (ok := (fun _ => True)) (by (with_reducible repeat (first | apply Kd.R_alloc | apply Kd.R_drewN | apply Kd.R_drew)); exact HO_3.out) hg hat); have n1_ := Aside0.mk (hb); have n2_ := Aside0.mk (ho); clear HO_3; clear HB; clear HO320; have HO_3 := n0_; have HB := n1_; have HO324 := n2_; clear n0_ n1_ n2_; clear ho hb hg hat))
                            repeat (go_quiet (first | ((with_reducible refine gate_builtin (b := .append) (xs := #[.tmp 35, .tmp 40]) rfl ?_); at_builtin; refine Kd.R_append k44 (w0 := w) w.heap.size rfl (.tmp 35) (.tmp 40) 22 44 (.agg #[(.int .i64 0), (.string ⟨#[]⟩), (.string ⟨#[]⟩), (.int .i64 0), (.int .i64 0), (.string ⟨#[]⟩)]) 72 rfl Tryz.underlying22 info44 rfl (by decide) (by omega) u5 x5_2 (⟨(rd_T44 l0 x4_1).f0, (rd_T44 l0 x4_1).f1, (rd_T44 l0 x4_1).f2, (rd_T44 l0 x4_1).f3, (rd_T44 l0 x4_1).f4, (rd_T44 l0 x4_1).f5⟩ : S44) [.int .i64 ((rd_T44 l0 x4_1).f0), .string ((rd_T44 l0 x4_1).f1), .string ((rd_T44 l0 x4_1).f2), .int .i64 ((rd_T44 l0 x4_1).f3), .int .i64 ((rd_T44 l0 x4_1).f4), .string ((rd_T44 l0 x4_1).f5)] (fun k_ => some k_ ≠ (.slice (some ad315) x3_1.length co15 : Value).ownBlock) (fun _ => False) rfl rfl ?aP (fun _ hk => hk.elim) ?aF ?aO ?aB ?aS ?aL ?_; (case aP => exact k44_mkM _ _ _ (⟨(rd_T44 l0 x4_1).f0, (rd_T44 l0 x4_1).f1, (rd_T44 l0 x4_1).f2, (rd_T44 l0 x4_1).f3, (rd_T44 l0 x4_1).f4, (rd_T44 l0 x4_1).f5⟩ : S44)); (case aB => exact (by repeat (first | (with_reducible first | exact HB.out | apply below_alloc | apply pw_below_drewN | apply below_drew1) | exact HB.out))); (case aF => exact (fun k_ hk => Kd.fresh' (Kd.R_lt (by (with_reducible repeat (first | apply Kd.R_alloc | apply Kd.R_drewN | apply Kd.R_drew)); exact HO_3.out)) k_ hk)); (case aO => exact (by (with_reducible repeat (first | apply Kd.R_alloc | apply Kd.R_drewN | apply Kd.R_drew)); exact HO_5.out)); (case aS => exact (below_size (by repeat (first | (with_reducible first | exact HB.out | apply below_alloc | apply pw_below_drewN | apply below_drew1) | exact HB.out)))); (case aL => have := LMc13.out; omega); intro v319 w16 ho hb hg hat; rw [← Ny318.out] at ho; have n0_ := Aside0.mk (Kd.R_after (ok := (fun _ => True)) (by (with_reducible repeat (first | apply Kd.R_alloc | apply Kd.R_drewN | apply Kd.R_drew)); exact Kd.R_mono HO_3.out (fun _ hk => ⟨trivial, hk⟩)) hg hat); have n1_ := Aside0.mk (hb); have n2_ := Aside0.mk (ho); clear HO_3; clear HB; clear HO_5; have HO_3 := n0_; have HB := n1_; have HO320 := n2_; clear n0_ n1_ n2_; clear ho hb hg hat; have p321 : 0 ≤ (x7_2 : Int) := of_decide_eq_true (by first | (with_reducible assumption) | assumption); have q321 : x7_2 < (x3_1.length : Int) := of_decide_eq_true (by first | (with_reducible assumption) | assumption); obtain ⟨ad321, e321, hx321_0, hx321_1, hx321_2, hx321_3, hx321_4, hx321_5⟩ := at_T44 (Kd.R_reads' HO_3.out).2.2 x7_2 p321 q321; obtain rfl : ad315 = ad321 := (by injection e321); replace p321 := eq_true p321; replace q321 := eq_true q321) | ((with_reducible refine gate_builtin (b := .append) (xs := #[.tmp 42, .tmp 47]) rfl ?_); at_builtin; refine Kd.R_append k44 (w0 := w) w.heap.size rfl (.tmp 42) (.tmp 47) 22 44 (.agg #[(.int .i64 0), (.string ⟨#[]⟩), (.string ⟨#[]⟩), (.int .i64 0), (.int .i64 0), (.string ⟨#[]⟩)]) 72 rfl Tryz.underlying22 info44 rfl (by decide) (by omega) v319 y318 (⟨(rd_T44 x3_1 x7_2).f0, (rd_T44 x3_1 x7_2).f1, (rd_T44 x3_1 x7_2).f2, (rd_T44 x3_1 x7_2).f3, (rd_T44 x3_1 x7_2).f4, (rd_T44 x3_1 x7_2).f5⟩ : S44) [.int .i64 ((rd_T44 x3_1 x7_2).f0), .string ((rd_T44 x3_1 x7_2).f1), .string ((rd_T44 x3_1 x7_2).f2), .int .i64 ((rd_T44 x3_1 x7_2).f3), .int .i64 ((rd_T44 x3_1 x7_2).f4), .string ((rd_T44 x3_1 x7_2).f5)] (fun k_ => some k_ ≠ (.slice (some ad315) x3_1.length co15 : Value).ownBlock) (fun _ => False) rfl rfl ?aP (fun _ hk => hk.elim) ?aF ?aO ?aB ?aS ?aL ?_; (case aP => exact k44_mkM _ _ _ (⟨(rd_T44 x3_1 x7_2).f0, (rd_T44 x3_1 x7_2).f1, (rd_T44 x3_1 x7_2).f2, (rd_T44 x3_1 x7_2).f3, (rd_T44 x3_1 x7_2).f4, (rd_T44 x3_1 x7_2).f5⟩ : S44)); (case aB => exact (by repeat (first | (with_reducible first | exact HB.out | apply below_alloc | apply pw_below_drewN | apply below_drew1) | exact HB.out))); (case aF => exact (fun k_ hk => Kd.fresh' (Kd.R_lt (by (with_reducible repeat (first | apply Kd.R_alloc | apply Kd.R_drewN | apply Kd.R_drew)); exact HO_3.out)) k_ hk)); (case aO => exact (by (with_reducible repeat (first | apply Kd.R_alloc | apply Kd.R_drewN | apply Kd.R_drew)); exact HO320.out)); (case aS => exact (below_size (by repeat (first | (with_reducible first | exact HB.out | apply below_alloc | apply pw_below_drewN | apply below_drew1) | exact HB.out)))); (case aL => have := LMc14.out; omega); intro v323 w17 ho hb hg hat; rw [← Ny322.out] at ho; have n0_ := Aside0.mk (Kd.R_after (ok := (fun _ => True)) (by (with_reducible repeat (first | apply Kd.R_alloc | apply Kd.R_drewN | apply Kd.R_drew)); exact HO_3.out) hg hat); have n1_ := Aside0.mk (hb); have n2_ := Aside0.mk (ho); clear HO_3; clear HB; clear HO320; have HO_3 := n0_; have HB := n1_; have HO324 := n2_; clear n0_ n1_ n2_; clear ho hb hg hat)); try go_wp2_with (first | ((with_reducible refine gate_builtin (b := .append) (xs := #[.tmp 35, .tmp 40]) rfl ?_); at_builtin; refine Kd.R_append k44 (w0 := w) w.heap.size rfl (.tmp 35) (.tmp 40) 22 44 (.agg #[(.int .i64 0), (.string ⟨#[]⟩), (.string ⟨#[]⟩), (.int .i64 0), (.int .i64 0), (.string ⟨#[]⟩)]) 72 rfl Tryz.underlying22 info44 rfl (by decide) (by omega) u5 x5_2 (⟨(rd_T44 l0 x4_1).f0, (rd_T44 l0 x4_1).f1, (rd_T44 l0 x4_1).f2, (rd_T44 l0 x4_1).f3, (rd_T44 l0 x4_1).f4, (rd_T44 l0 x4_1).f5⟩ : S44) [.int .i64 ((rd_T44 l0 x4_1).f0), .string ((rd_T44 l0 x4_1).f1), .string ((rd_T44 l0 x4_1).f2), .int .i64 ((rd_T44 l0 x4_1).f3), .int .i64 ((rd_T44 l0 x4_1).f4), .string ((rd_T44 l0 x4_1).f5)] (fun k_ => some k_ ≠ (.slice (some ad315) x3_1.length co15 : Value).ownBlock) (fun _ => False) rfl rfl ?aP (fun _ hk => hk.elim) ?aF ?aO ?aB ?aS ?aL ?_; (case aP => exact k44_mkM _ _ _ (⟨(rd_T44 l0 x4_1).f0, (rd_T44 l0 x4_1).f1, (rd_T44 l0 x4_1).f2, (rd_T44 l0 x4_1).f3, (rd_T44 l0 x4_1).f4, (rd_T44 l0 x4_1).f5⟩ : S44)); (case aB => exact (by repeat (first | (with_reducible first | exact HB.out | apply below_alloc | apply pw_below_drewN | apply below_drew1) | exact HB.out))); (case aF => exact (fun k_ hk => Kd.fresh' (Kd.R_lt (by (with_reducible repeat (first | apply Kd.R_alloc | apply Kd.R_drewN | apply Kd.R_drew)); exact HO_3.out)) k_ hk)); (case aO => exact (by (with_reducible repeat (first | apply Kd.R_alloc | apply Kd.R_drewN | apply Kd.R_drew)); exact HO_5.out)); (case aS => exact (below_size (by repeat (first | (with_reducible first | exact HB.out | apply below_alloc | apply pw_below_drewN | apply below_drew1) | exact HB.out)))); (case aL => have := LMc13.out; omega); intro v319 w16 ho hb hg hat; rw [← Ny318.out] at ho; have n0_ := Aside0.mk (Kd.R_after (ok := (fun _ => True)) (by (with_reducible repeat (first | apply Kd.R_alloc | apply Kd.R_drewN | apply Kd.R_drew)); exact Kd.R_mono HO_3.out (fun _ hk => ⟨trivial, hk⟩)) hg hat); have n1_ := Aside0.mk (hb); have n2_ := Aside0.mk (ho); clear HO_3; clear HB; clear HO_5; have HO_3 := n0_; have HB := n1_; have HO320 := n2_; clear n0_ n1_ n2_; clear ho hb hg hat; have p321 : 0 ≤ (x7_2 : Int) := of_decide_eq_true (by first | (with_reducible assumption) | assumption); have q321 : x7_2 < (x3_1.length : Int) := of_decide_eq_true (by first | (with_reducible assumption) | assumption); obtain ⟨ad321, e321, hx321_0, hx321_1, hx321_2, hx321_3, hx321_4, hx321_5⟩ := at_T44 (Kd.R_reads' HO_3.out).2.2 x7_2 p321 q321; obtain rfl : ad315 = ad321 := (by injection e321); replace p321 := eq_true p321; replace q321 := eq_true q321) | ((with_reducible refine gate_builtin (b := .append) (xs := #[.tmp 42, .tmp 47]) rfl ?_); at_builtin; refine Kd.R_append k44 (w0 := w) w.heap.size rfl (.tmp 42) (.tmp 47) 22 44 (.agg #[(.int .i64 0), (.string ⟨#[]⟩), (.string ⟨#[]⟩), (.int .i64 0), (.int .i64 0), (.string ⟨#[]⟩)]) 72 rfl Tryz.underlying22 info44 rfl (by decide) (by omega) v319 y318 (⟨(rd_T44 x3_1 x7_2).f0, (rd_T44 x3_1 x7_2).f1, (rd_T44 x3_1 x7_2).f2, (rd_T44 x3_1 x7_2).f3, (rd_T44 x3_1 x7_2).f4, (rd_T44 x3_1 x7_2).f5⟩ : S44) [.int .i64 ((rd_T44 x3_1 x7_2).f0), .string ((rd_T44 x3_1 x7_2).f1), .string ((rd_T44 x3_1 x7_2).f2), .int .i64 ((rd_T44 x3_1 x7_2).f3), .int .i64 ((rd_T44 x3_1 x7_2).f4), .string ((rd_T44 x3_1 x7_2).f5)] (fun k_ => some k_ ≠ (.slice (some ad315) x3_1.length co15 : Value).ownBlock) (fun _ => False) rfl rfl ?aP (fun _ hk => hk.elim) ?aF ?aO ?aB ?aS ?aL ?_; (case aP => exact k44_mkM _ _ _ (⟨(rd_T44 x3_1 x7_2).f0, (rd_T44 x3_1 x7_2).f1, (rd_T44 x3_1 x7_2).f2, (rd_T44 x3_1 x7_2).f3, (rd_T44 x3_1 x7_2).f4, (rd_T44 x3_1 x7_2).f5⟩ : S44)); (case aB => exact (by repeat (first | (with_reducible first | exact HB.out | apply below_alloc | apply pw_below_drewN | apply below_drew1) | exact HB.out))); (case aF => exact (fun k_ hk => Kd.fresh' (Kd.R_lt (by (with_reducible repeat (first | apply Kd.R_alloc | apply Kd.R_drewN | apply Kd.R_drew)); exact HO_3.out)) k_ hk)); (case aO => exact (by (with_reducible repeat (first | apply Kd.R_alloc | apply Kd.R_drewN | apply Kd.R_drew)); exact HO320.out)); (case aS => exact (below_size (by repeat (first | (with_reducible first | exact HB.out | apply below_alloc | apply pw_below_drewN | apply below_drew1) | exact HB.out)))); (case aL => have := LMc14.out; omega); intro v323 w17 ho hb hg hat; rw [← Ny322.out] at ho; have n0_ := Aside0.mk (Kd.R_after (ok := (fun _ => True)) (by (with_reducible repeat (first | apply Kd.R_alloc | apply Kd.R_drewN | apply Kd.R_drew)); exact HO_3.out) hg hat); have n1_ := Aside0.mk (hb); have n2_ := Aside0.mk (ho); clear HO_3; clear HB; clear HO320; have HO_3 := n0_; have HB := n1_; have HO324 := n2_; clear n0_ n1_ n2_; clear ho hb hg hat)))
                            go_roundg k2
                            case measure => have := HK1.out; have := HK2.out; omega
                            case rel => exact ⟨(y322), (true), (wrap64 (x7_2 + 1)), (by first | rfl | (simp; done) | (simp [*]; done)), (by first | rfl | (simp; done) | (simp [*]; done)), H', ⟨by have := HK1.out; have := HK2.out; omega⟩, ⟨by (with_reducible repeat (first | apply Kd.R_alloc | apply Kd.R_drewN | apply Kd.R_drew)); exact Kd.R_mono HO_3.out (fun _ hk => hk.2)⟩, ⟨by (with_reducible repeat (first | apply Kd.R_alloc | apply Kd.R_drewN | apply Kd.R_drew)); exact HO324.out⟩, ⟨by repeat (first | (with_reducible first | exact HB.out | apply below_alloc | apply pw_below_drewN | apply below_drew1) | exact HB.out)⟩⟩
                          · rw [if_neg c14] at H
                            exact absurd H (by simp)
                        · rw [if_neg c13] at H
                          exact absurd H (by simp)
                      · rw [if_neg c12] at H
                        have c12b0 : (Op.bytesLess (((rd_T44 l0 x4_1).f1).toList) (((rd_T44 x3_1 x7_2).f1).toList)) = false := by simpa using c12
                        clear c12
                        by_cases c18 : x5_2.length < 1954687338268
                        · rw [if_pos c18] at H
                          have LMc18 := Aside0.mk c18
                          clear c18
                          obtain ⟨y326, hy326⟩ : ∃ y_ : List (S44), y_ = (x5_2 ++ [(⟨(rd_T44 x3_1 x7_2).f0, (rd_T44 x3_1 x7_2).f1, (rd_T44 x3_1 x7_2).f2, (rd_T44 x3_1 x7_2).f3, (rd_T44 x3_1 x7_2).f4, (rd_T44 x3_1 x7_2).f5⟩ : S44)]) := ⟨_, rfl⟩
                          replace H : (wainloadref16_Sort.l1 k2 l0 x3_1 x4_1 y326 false (wrap64 (x7_2 + 1))) = some r := by first | (rw [hy326]; with_reducible exact H) | (have H2_ := (Option.bind_some _ _).symm.trans H; rw [hy326]; with_reducible exact H2_) | (have H2_ := (Option.bind_some _ _).symm.trans H; with_reducible exact H2_) | with_reducible exact H | (rw [hy326]; exact H) | exact H
                          have Ny326 := Aside0.mk hy326
                          clear hy326
                          have H' := Aside0.mk H
                          clear H
                          obtain ⟨Ao19, co19, eo19⟩ := Kd.R_slice HO_3.out
                          subst eo19
                          have p315 : 0 ≤ (x7_2 : Int) := of_decide_eq_true (by first | (with_reducible assumption) | assumption)
                          have q315 : x7_2 < (x3_1.length : Int) := of_decide_eq_true (by first | (with_reducible assumption) | assumption)
                          obtain ⟨ad315, e315, hx315_0, hx315_1, hx315_2, hx315_3, hx315_4, hx315_5⟩ := at_T44 (Kd.R_reads' HO_3.out).2.2 x7_2 p315 q315
                          cases e315
                          replace p315 := eq_true p315
                          replace q315 := eq_true q315
                          have p316 : 0 ≤ (x4_1 : Int) := of_decide_eq_true (by first | (with_reducible assumption) | assumption)
                          have q316 : x4_1 < (l0.length : Int) := of_decide_eq_true (by first | (with_reducible assumption) | assumption)
                          obtain ⟨ad316, e316, hx316_0, hx316_1, hx316_2, hx316_3, hx316_4, hx316_5⟩ := at_T44 HR0.out x4_1 p316 q316
                          cases e316
                          replace hx316_0 := (HB.out.cell (World.block_lt_of_cell? w _ hx316_0)).trans hx316_0
                          replace hx316_1 := (HB.out.cell (World.block_lt_of_cell? w _ hx316_1)).trans hx316_1
                          replace hx316_2 := (HB.out.cell (World.block_lt_of_cell? w _ hx316_2)).trans hx316_2
                          replace hx316_3 := (HB.out.cell (World.block_lt_of_cell? w _ hx316_3)).trans hx316_3
                          replace hx316_4 := (HB.out.cell (World.block_lt_of_cell? w _ hx316_4)).trans hx316_4
                          replace hx316_5 := (HB.out.cell (World.block_lt_of_cell? w _ hx316_5)).trans hx316_5
                          replace p316 := eq_true p316
                          replace q316 := eq_true q316
                          have p325 : 0 ≤ (x7_2 : Int) := of_decide_eq_true (by first | (with_reducible assumption) | assumption)
                          have q325 : x7_2 < (x3_1.length : Int) := of_decide_eq_true (by first | (with_reducible assumption) | assumption)
                          obtain ⟨ad325, e325, hx325_0, hx325_1, hx325_2, hx325_3, hx325_4, hx325_5⟩ := at_T44 (Kd.R_reads' HO_3.out).2.2 x7_2 p325 q325
                          obtain rfl : ad315 = ad325 := (by injection e325)
                          replace p325 := eq_true p325
                          replace q325 := eq_true q325
                          go_wp2_with (first | ((with_reducible refine gate_builtin (b := .append) (xs := #[.tmp 42, .tmp 47]) rfl ?_); at_builtin; refine Kd.R_append k44 (w0 := w) w.heap.size rfl (.tmp 42) (.tmp 47) 22 44 (.agg #[(.int .i64 0), (.string ⟨#[]⟩), (.string ⟨#[]⟩), (.int .i64 0), (.int .i64 0), (.string ⟨#[]⟩)]) 72 rfl Tryz.underlying22 info44 rfl (by decide) (by omega) u5 x5_2 (⟨(rd_T44 x3_1 x7_2).f0, (rd_T44 x3_1 x7_2).f1, (rd_T44 x3_1 x7_2).f2, (rd_T44 x3_1 x7_2).f3, (rd_T44 x3_1 x7_2).f4, (rd_T44 x3_1 x7_2).f5⟩ : S44) [.int .i64 ((rd_T44 x3_1 x7_2).f0), .string ((rd_T44 x3_1 x7_2).f1), .string ((rd_T44 x3_1 x7_2).f2), .int .i64 ((rd_T44 x3_1 x7_2).f3), .int .i64 ((rd_T44 x3_1 x7_2).f4), .string ((rd_T44 x3_1 x7_2).f5)] (fun k_ => some k_ ≠ (.slice (some ad315) x3_1.length co19 : Value).ownBlock) (fun _ => False) rfl rfl ?aP (fun _ hk => hk.elim) ?aF ?aO ?aB ?aS ?aL ?_; (case aP => exact k44_mkM _ _ _ (⟨(rd_T44 x3_1 x7_2).f0, (rd_T44 x3_1 x7_2).f1, (rd_T44 x3_1 x7_2).f2, (rd_T44 x3_1 x7_2).f3, (rd_T44 x3_1 x7_2).f4, (rd_T44 x3_1 x7_2).f5⟩ : S44)); (case aB => exact (by repeat (first | (with_reducible first | exact HB.out | apply below_alloc | apply pw_below_drewN | apply below_drew1) | exact HB.out))); (case aF => exact (fun k_ hk => Kd.fresh' (Kd.R_lt (by (with_reducible repeat (first | apply Kd.R_alloc | apply Kd.R_drewN | apply Kd.R_drew)); exact HO_3.out)) k_ hk)); (case aO => exact (by (with_reducible repeat (first | apply Kd.R_alloc | apply Kd.R_drewN | apply Kd.R_drew)); exact HO_5.out)); (case aS => exact (below_size (by repeat (first | (with_reducible first | exact HB.out | apply below_alloc | apply pw_below_drewN | apply below_drew1) | exact HB.out)))); (case aL => have := LMc18.out; omega); intro v327 w20 ho hb hg hat; rw [← Ny326.out] at ho; have n0_ := Aside0.mk (Kd.R_after (ok := (fun _ => True)) (by (with_reducible repeat (first | apply Kd.R_alloc | apply Kd.R_drewN | apply Kd.R_drew)); exact Kd.R_mono HO_3.out (fun _ hk => ⟨trivial, hk⟩)) hg hat); have n1_ := Aside0.mk (hb); have n2_ := Aside0.mk (ho); clear HO_3; clear HB; clear HO_5; have HO_3 := n0_; have HB := n1_; have HO328 := n2_; clear n0_ n1_ n2_; clear ho hb hg hat))
                          repeat (go_quiet (first | ((with_reducible refine gate_builtin (b := .append) (xs := #[.tmp 42, .tmp 47]) rfl ?_); at_builtin; refine Kd.R_append k44 (w0 := w) w.heap.size rfl (.tmp 42) (.tmp 47) 22 44 (.agg #[(.int .i64 0), (.string ⟨#[]⟩), (.string ⟨#[]⟩), (.int .i64 0), (.int .i64 0), (.string ⟨#[]⟩)]) 72 rfl Tryz.underlying22 info44 rfl (by decide) (by omega) u5 x5_2 (⟨(rd_T44 x3_1 x7_2).f0, (rd_T44 x3_1 x7_2).f1, (rd_T44 x3_1 x7_2).f2, (rd_T44 x3_1 x7_2).f3, (rd_T44 x3_1 x7_2).f4, (rd_T44 x3_1 x7_2).f5⟩ : S44) [.int .i64 ((rd_T44 x3_1 x7_2).f0), .string ((rd_T44 x3_1 x7_2).f1), .string ((rd_T44 x3_1 x7_2).f2), .int .i64 ((rd_T44 x3_1 x7_2).f3), .int .i64 ((rd_T44 x3_1 x7_2).f4), .string ((rd_T44 x3_1 x7_2).f5)] (fun k_ => some k_ ≠ (.slice (some ad315) x3_1.length co19 : Value).ownBlock) (fun _ => False) rfl rfl ?aP (fun _ hk => hk.elim) ?aF ?aO ?aB ?aS ?aL ?_; (case aP => exact k44_mkM _ _ _ (⟨(rd_T44 x3_1 x7_2).f0, (rd_T44 x3_1 x7_2).f1, (rd_T44 x3_1 x7_2).f2, (rd_T44 x3_1 x7_2).f3, (rd_T44 x3_1 x7_2).f4, (rd_T44 x3_1 x7_2).f5⟩ : S44)); (case aB => exact (by repeat (first | (with_reducible first | exact HB.out | apply below_alloc | apply pw_below_drewN | apply below_drew1) | exact HB.out))); (case aF => exact (fun k_ hk => Kd.fresh' (Kd.R_lt (by (with_reducible repeat (first | apply Kd.R_alloc | apply Kd.R_drewN | apply Kd.R_drew)); exact HO_3.out)) k_ hk)); (case aO => exact (by (with_reducible repeat (first | apply Kd.R_alloc | apply Kd.R_drewN | apply Kd.R_drew)); exact HO_5.out)); (case aS => exact (below_size (by repeat (first | (with_reducible first | exact HB.out | apply below_alloc | apply pw_below_drewN | apply below_drew1) | exact HB.out)))); (case aL => have := LMc18.out; omega); intro v327 w20 ho hb hg hat; rw [← Ny326.out] at ho; have n0_ := Aside0.mk (Kd.R_after (ok := (fun _ => True)) (by (with_reducible repeat (first | apply Kd.R_alloc | apply Kd.R_drewN | apply Kd.R_drew)); exact Kd.R_mono HO_3.out (fun _ hk => ⟨trivial, hk⟩)) hg hat); have n1_ := Aside0.mk (hb); have n2_ := Aside0.mk (ho); clear HO_3; clear HB; clear HO_5; have HO_3 := n0_; have HB := n1_; have HO328 := n2_; clear n0_ n1_ n2_; clear ho hb hg hat)); try go_wp2_with (first | ((with_reducible refine gate_builtin (b := .append) (xs := #[.tmp 42, .tmp 47]) rfl ?_); at_builtin; refine Kd.R_append k44 (w0 := w) w.heap.size rfl (.tmp 42) (.tmp 47) 22 44 (.agg #[(.int .i64 0), (.string ⟨#[]⟩), (.string ⟨#[]⟩), (.int .i64 0), (.int .i64 0), (.string ⟨#[]⟩)]) 72 rfl Tryz.underlying22 info44 rfl (by decide) (by omega) u5 x5_2 (⟨(rd_T44 x3_1 x7_2).f0, (rd_T44 x3_1 x7_2).f1, (rd_T44 x3_1 x7_2).f2, (rd_T44 x3_1 x7_2).f3, (rd_T44 x3_1 x7_2).f4, (rd_T44 x3_1 x7_2).f5⟩ : S44) [.int .i64 ((rd_T44 x3_1 x7_2).f0), .string ((rd_T44 x3_1 x7_2).f1), .string ((rd_T44 x3_1 x7_2).f2), .int .i64 ((rd_T44 x3_1 x7_2).f3), .int .i64 ((rd_T44 x3_1 x7_2).f4), .string ((rd_T44 x3_1 x7_2).f5)] (fun k_ => some k_ ≠ (.slice (some ad315) x3_1.length co19 : Value).ownBlock) (fun _ => False) rfl rfl ?aP (fun _ hk => hk.elim) ?aF ?aO ?aB ?aS ?aL ?_; (case aP => exact k44_mkM _ _ _ (⟨(rd_T44 x3_1 x7_2).f0, (rd_T44 x3_1 x7_2).f1, (rd_T44 x3_1 x7_2).f2, (rd_T44 x3_1 x7_2).f3, (rd_T44 x3_1 x7_2).f4, (rd_T44 x3_1 x7_2).f5⟩ : S44)); (case aB => exact (by repeat (first | (with_reducible first | exact HB.out | apply below_alloc | apply pw_below_drewN | apply below_drew1) | exact HB.out))); (case aF => exact (fun k_ hk => Kd.fresh' (Kd.R_lt (by (with_reducible repeat (first | apply Kd.R_alloc | apply Kd.R_drewN | apply Kd.R_drew)); exact HO_3.out)) k_ hk)); (case aO => exact (by (with_reducible repeat (first | apply Kd.R_alloc | apply Kd.R_drewN | apply Kd.R_drew)); exact HO_5.out)); (case aS => exact (below_size (by repeat (first | (with_reducible first | exact HB.out | apply below_alloc | apply pw_below_drewN | apply below_drew1) | exact HB.out)))); (case aL => have := LMc18.out; omega); intro v327 w20 ho hb hg hat; rw [← Ny326.out] at ho; have n0_ := Aside0.mk (Kd.R_after (ok := (fun _ => True)) (by (with_reducible repeat (first | apply Kd.R_alloc | apply Kd.R_drewN | apply Kd.R_drew)); exact Kd.R_mono HO_3.out (fun _ hk => ⟨trivial, hk⟩)) hg hat); have n1_ := Aside0.mk (hb); have n2_ := Aside0.mk (ho); clear HO_3; clear HB; clear HO_5; have HO_3 := n0_; have HB := n1_; have HO328 := n2_; clear n0_ n1_ n2_; clear ho hb hg hat)))
                          go_roundg k2
                          case measure => have := HK1.out; have := HK2.out; omega
                          case rel => exact ⟨(y326), (false), (wrap64 (x7_2 + 1)), (by first | rfl | (simp; done) | (simp [*]; done)), (by first | rfl | (simp; done) | (simp [*]; done)), H', ⟨by have := HK1.out; have := HK2.out; omega⟩, ⟨by (with_reducible repeat (first | apply Kd.R_alloc | apply Kd.R_drewN | apply Kd.R_drew)); exact Kd.R_mono HO_3.out (fun _ hk => hk.2)⟩, ⟨by (with_reducible repeat (first | apply Kd.R_alloc | apply Kd.R_drewN | apply Kd.R_drew)); exact HO328.out⟩, ⟨by repeat (first | (with_reducible first | exact HB.out | apply below_alloc | apply pw_below_drewN | apply below_drew1) | exact HB.out)⟩⟩
                        · rw [if_neg c18] at H
                          exact absurd H (by simp)
                    · rw [if_neg c11] at H
                      exact absurd H (by simp)
                  · rw [if_neg c10] at H
                    exact absurd H (by simp)
                · rw [if_neg c9] at H
                  exact absurd H (by simp)
            · rw [if_neg c3] at H
              have c3b0 : decide (x7_2 < (x3_1.length : Int)) = false := decide_eq_false c3
              clear c3
              by_cases c21 : x6_2 = true
              · subst c21
                have H1 : (wainloadref16_Sort.l0 k2 l0 x5_2 (wrap64 (x4_1 + 1))) = some r := by rw [if_pos rfl] at H; exact H
                clear H
                have H := H1
                clear H1
                have H' := Aside0.mk H
                clear H
                obtain ⟨Ao22, co22, eo22⟩ := Kd.R_slice HO_3.out
                subst eo22
                go_wp2
                repeat (go_quiet (fail); try go_wp2)
                go_roundg k2
                case measure => have := HK1.out; have := HK2.out; omega
                case rel => exact ⟨(x5_2), (wrap64 (x4_1 + 1)), (by first | rfl | (simp; done) | (simp [*]; done)), H', ⟨by have := HK1.out; have := HK2.out; omega⟩, ⟨by (with_reducible repeat (first | apply Kd.R_alloc | apply Kd.R_drewN | apply Kd.R_drew)); exact Kd.R_mono HO_5.out (fun _ hk => trivial)⟩, ⟨by repeat (first | (with_reducible first | exact HB.out | apply below_alloc | apply pw_below_drewN | apply below_drew1) | exact HB.out)⟩⟩
              · replace c21 := Bool.eq_false_iff.mpr c21
                subst c21
                have H1 : (if 0 ≤ x4_1 then (if x4_1 < (l0.length : Int) then (if x5_2.length < 1954687338268 then (wainloadref16_Sort.l0 k2 l0 (x5_2 ++ [(⟨(rd_T44 l0 x4_1).f0, (rd_T44 l0 x4_1).f1, (rd_T44 l0 x4_1).f2, (rd_T44 l0 x4_1).f3, (rd_T44 l0 x4_1).f4, (rd_T44 l0 x4_1).f5⟩ : S44)]) (wrap64 (x4_1 + 1))) else (none)) else (none)) else (none)) = some r := by rw [if_neg (show ¬ (false = true) by decide)] at H; exact H
                clear H
                have H := H1
                clear H1
                by_cases c23 : 0 ≤ x4_1
                · rw [if_pos c23] at H
                  have c23b0 : decide (0 ≤ x4_1) = true := decide_eq_true c23
                  clear c23
                  by_cases c24 : x4_1 < (l0.length : Int)
                  · rw [if_pos c24] at H
                    have c24b0 : decide (x4_1 < (l0.length : Int)) = true := decide_eq_true c24
                    clear c24
                    by_cases c25 : x5_2.length < 1954687338268
                    · rw [if_pos c25] at H
                      have LMc25 := Aside0.mk c25
                      clear c25
                      obtain ⟨y330, hy330⟩ : ∃ y_ : List (S44), y_ = (x5_2 ++ [(⟨(rd_T44 l0 x4_1).f0, (rd_T44 l0 x4_1).f1, (rd_T44 l0 x4_1).f2, (rd_T44 l0 x4_1).f3, (rd_T44 l0 x4_1).f4, (rd_T44 l0 x4_1).f5⟩ : S44)]) := ⟨_, rfl⟩
                      replace H : (wainloadref16_Sort.l0 k2 l0 y330 (wrap64 (x4_1 + 1))) = some r := by first | (rw [hy330]; with_reducible exact H) | (have H2_ := (Option.bind_some _ _).symm.trans H; rw [hy330]; with_reducible exact H2_) | (have H2_ := (Option.bind_some _ _).symm.trans H; with_reducible exact H2_) | with_reducible exact H | (rw [hy330]; exact H) | exact H
                      have Ny330 := Aside0.mk hy330
                      clear hy330
                      have H' := Aside0.mk H
                      clear H
                      obtain ⟨Ao26, co26, eo26⟩ := Kd.R_slice HO_3.out
                      subst eo26
                      have p329 : 0 ≤ (x4_1 : Int) := of_decide_eq_true (by first | (with_reducible assumption) | assumption)
                      have q329 : x4_1 < (l0.length : Int) := of_decide_eq_true (by first | (with_reducible assumption) | assumption)
                      obtain ⟨ad329, e329, hx329_0, hx329_1, hx329_2, hx329_3, hx329_4, hx329_5⟩ := at_T44 HR0.out x4_1 p329 q329
                      cases e329
                      replace hx329_0 := (HB.out.cell (World.block_lt_of_cell? w _ hx329_0)).trans hx329_0
                      replace hx329_1 := (HB.out.cell (World.block_lt_of_cell? w _ hx329_1)).trans hx329_1
                      replace hx329_2 := (HB.out.cell (World.block_lt_of_cell? w _ hx329_2)).trans hx329_2
                      replace hx329_3 := (HB.out.cell (World.block_lt_of_cell? w _ hx329_3)).trans hx329_3
                      replace hx329_4 := (HB.out.cell (World.block_lt_of_cell? w _ hx329_4)).trans hx329_4
                      replace hx329_5 := (HB.out.cell (World.block_lt_of_cell? w _ hx329_5)).trans hx329_5
                      replace p329 := eq_true p329
                      replace q329 := eq_true q329
                      go_wp2_with (first | ((with_reducible refine gate_builtin (b := .append) (xs := #[.tmp 51, .tmp 56]) rfl ?_); at_builtin; refine Kd.R_append k44 (w0 := w) w.heap.size rfl (.tmp 51) (.tmp 56) 22 44 (.agg #[(.int .i64 0), (.string ⟨#[]⟩), (.string ⟨#[]⟩), (.int .i64 0), (.int .i64 0), (.string ⟨#[]⟩)]) 72 rfl Tryz.underlying22 info44 rfl (by decide) (by omega) u5 x5_2 (⟨(rd_T44 l0 x4_1).f0, (rd_T44 l0 x4_1).f1, (rd_T44 l0 x4_1).f2, (rd_T44 l0 x4_1).f3, (rd_T44 l0 x4_1).f4, (rd_T44 l0 x4_1).f5⟩ : S44) [.int .i64 ((rd_T44 l0 x4_1).f0), .string ((rd_T44 l0 x4_1).f1), .string ((rd_T44 l0 x4_1).f2), .int .i64 ((rd_T44 l0 x4_1).f3), .int .i64 ((rd_T44 l0 x4_1).f4), .string ((rd_T44 l0 x4_1).f5)] (fun k_ => some k_ ≠ (.slice Ao26 x3_1.length co26 : Value).ownBlock) (fun _ => False) rfl rfl ?aP (fun _ hk => hk.elim) ?aF ?aO ?aB ?aS ?aL ?_; (case aP => exact k44_mkM _ _ _ (⟨(rd_T44 l0 x4_1).f0, (rd_T44 l0 x4_1).f1, (rd_T44 l0 x4_1).f2, (rd_T44 l0 x4_1).f3, (rd_T44 l0 x4_1).f4, (rd_T44 l0 x4_1).f5⟩ : S44)); (case aB => exact (by repeat (first | (with_reducible first | exact HB.out | apply below_alloc | apply pw_below_drewN | apply below_drew1) | exact HB.out))); (case aF => exact (fun k_ hk => Kd.fresh' (Kd.R_lt (by (with_reducible repeat (first | apply Kd.R_alloc | apply Kd.R_drewN | apply Kd.R_drew)); exact HO_3.out)) k_ hk)); (case aO => exact (by (with_reducible repeat (first | apply Kd.R_alloc | apply Kd.R_drewN | apply Kd.R_drew)); exact HO_5.out)); (case aS => exact (below_size (by repeat (first | (with_reducible first | exact HB.out | apply below_alloc | apply pw_below_drewN | apply below_drew1) | exact HB.out)))); (case aL => have := LMc25.out; omega); intro v331 w27 ho hb hg hat; rw [← Ny330.out] at ho; have n0_ := Aside0.mk (Kd.R_after (ok := (fun _ => True)) (by (with_reducible repeat (first | apply Kd.R_alloc | apply Kd.R_drewN | apply Kd.R_drew)); exact Kd.R_mono HO_3.out (fun _ hk => ⟨trivial, hk⟩)) hg hat); have n1_ := Aside0.mk (hb); have n2_ := Aside0.mk (ho); clear HO_3; clear HB; clear HO_5; have HO_3 := n0_; have HB := n1_; have HO332 := n2_; clear n0_ n1_ n2_; clear ho hb hg hat))
                      repeat (go_quiet (first | ((with_reducible refine gate_builtin (b := .append) (xs := #[.tmp 51, .tmp 56]) rfl ?_); at_builtin; refine Kd.R_append k44 (w0 := w) w.heap.size rfl (.tmp 51) (.tmp 56) 22 44 (.agg #[(.int .i64 0), (.string ⟨#[]⟩), (.string ⟨#[]⟩), (.int .i64 0), (.int .i64 0), (.string ⟨#[]⟩)]) 72 rfl Tryz.underlying22 info44 rfl (by decide) (by omega) u5 x5_2 (⟨(rd_T44 l0 x4_1).f0, (rd_T44 l0 x4_1).f1, (rd_T44 l0 x4_1).f2, (rd_T44 l0 x4_1).f3, (rd_T44 l0 x4_1).f4, (rd_T44 l0 x4_1).f5⟩ : S44) [.int .i64 ((rd_T44 l0 x4_1).f0), .string ((rd_T44 l0 x4_1).f1), .string ((rd_T44 l0 x4_1).f2), .int .i64 ((rd_T44 l0 x4_1).f3), .int .i64 ((rd_T44 l0 x4_1).f4), .string ((rd_T44 l0 x4_1).f5)] (fun k_ => some k_ ≠ (.slice Ao26 x3_1.length co26 : Value).ownBlock) (fun _ => False) rfl rfl ?aP (fun _ hk => hk.elim) ?aF ?aO ?aB ?aS ?aL ?_; (case aP => exact k44_mkM _ _ _ (⟨(rd_T44 l0 x4_1).f0, (rd_T44 l0 x4_1).f1, (rd_T44 l0 x4_1).f2, (rd_T44 l0 x4_1).f3, (rd_T44 l0 x4_1).f4, (rd_T44 l0 x4_1).f5⟩ : S44)); (case aB => exact (by repeat (first | (with_reducible first | exact HB.out | apply below_alloc | apply pw_below_drewN | apply below_drew1) | exact HB.out))); (case aF => exact (fun k_ hk => Kd.fresh' (Kd.R_lt (by (with_reducible repeat (first | apply Kd.R_alloc | apply Kd.R_drewN | apply Kd.R_drew)); exact HO_3.out)) k_ hk)); (case aO => exact (by (with_reducible repeat (first | apply Kd.R_alloc | apply Kd.R_drewN | apply Kd.R_drew)); exact HO_5.out)); (case aS => exact (below_size (by repeat (first | (with_reducible first | exact HB.out | apply below_alloc | apply pw_below_drewN | apply below_drew1) | exact HB.out)))); (case aL => have := LMc25.out; omega); intro v331 w27 ho hb hg hat; rw [← Ny330.out] at ho; have n0_ := Aside0.mk (Kd.R_after (ok := (fun _ => True)) (by (with_reducible repeat (first | apply Kd.R_alloc | apply Kd.R_drewN | apply Kd.R_drew)); exact Kd.R_mono HO_3.out (fun _ hk => ⟨trivial, hk⟩)) hg hat); have n1_ := Aside0.mk (hb); have n2_ := Aside0.mk (ho); clear HO_3; clear HB; clear HO_5; have HO_3 := n0_; have HB := n1_; have HO332 := n2_; clear n0_ n1_ n2_; clear ho hb hg hat)); try go_wp2_with (first | ((with_reducible refine gate_builtin (b := .append) (xs := #[.tmp 51, .tmp 56]) rfl ?_); at_builtin; refine Kd.R_append k44 (w0 := w) w.heap.size rfl (.tmp 51) (.tmp 56) 22 44 (.agg #[(.int .i64 0), (.string ⟨#[]⟩), (.string ⟨#[]⟩), (.int .i64 0), (.int .i64 0), (.string ⟨#[]⟩)]) 72 rfl Tryz.underlying22 info44 rfl (by decide) (by omega) u5 x5_2 (⟨(rd_T44 l0 x4_1).f0, (rd_T44 l0 x4_1).f1, (rd_T44 l0 x4_1).f2, (rd_T44 l0 x4_1).f3, (rd_T44 l0 x4_1).f4, (rd_T44 l0 x4_1).f5⟩ : S44) [.int .i64 ((rd_T44 l0 x4_1).f0), .string ((rd_T44 l0 x4_1).f1), .string ((rd_T44 l0 x4_1).f2), .int .i64 ((rd_T44 l0 x4_1).f3), .int .i64 ((rd_T44 l0 x4_1).f4), .string ((rd_T44 l0 x4_1).f5)] (fun k_ => some k_ ≠ (.slice Ao26 x3_1.length co26 : Value).ownBlock) (fun _ => False) rfl rfl ?aP (fun _ hk => hk.elim) ?aF ?aO ?aB ?aS ?aL ?_; (case aP => exact k44_mkM _ _ _ (⟨(rd_T44 l0 x4_1).f0, (rd_T44 l0 x4_1).f1, (rd_T44 l0 x4_1).f2, (rd_T44 l0 x4_1).f3, (rd_T44 l0 x4_1).f4, (rd_T44 l0 x4_1).f5⟩ : S44)); (case aB => exact (by repeat (first | (with_reducible first | exact HB.out | apply below_alloc | apply pw_below_drewN | apply below_drew1) | exact HB.out))); (case aF => exact (fun k_ hk => Kd.fresh' (Kd.R_lt (by (with_reducible repeat (first | apply Kd.R_alloc | apply Kd.R_drewN | apply Kd.R_drew)); exact HO_3.out)) k_ hk)); (case aO => exact (by (with_reducible repeat (first | apply Kd.R_alloc | apply Kd.R_drewN | apply Kd.R_drew)); exact HO_5.out)); (case aS => exact (below_size (by repeat (first | (with_reducible first | exact HB.out | apply below_alloc | apply pw_below_drewN | apply below_drew1) | exact HB.out)))); (case aL => have := LMc25.out; omega); intro v331 w27 ho hb hg hat; rw [← Ny330.out] at ho; have n0_ := Aside0.mk (Kd.R_after (ok := (fun _ => True)) (by (with_reducible repeat (first | apply Kd.R_alloc | apply Kd.R_drewN | apply Kd.R_drew)); exact Kd.R_mono HO_3.out (fun _ hk => ⟨trivial, hk⟩)) hg hat); have n1_ := Aside0.mk (hb); have n2_ := Aside0.mk (ho); clear HO_3; clear HB; clear HO_5; have HO_3 := n0_; have HB := n1_; have HO332 := n2_; clear n0_ n1_ n2_; clear ho hb hg hat)))
                      go_roundg k2
                      case measure => have := HK1.out; have := HK2.out; omega
                      case rel => exact ⟨(y330), (wrap64 (x4_1 + 1)), (by first | rfl | (simp; done) | (simp [*]; done)), H', ⟨by have := HK1.out; have := HK2.out; omega⟩, ⟨by (with_reducible repeat (first | apply Kd.R_alloc | apply Kd.R_drewN | apply Kd.R_drew)); exact Kd.R_mono HO332.out (fun _ hk => trivial)⟩, ⟨by repeat (first | (with_reducible first | exact HB.out | apply below_alloc | apply pw_below_drewN | apply below_drew1) | exact HB.out)⟩⟩
                    · rw [if_neg c25] at H
                      exact absurd H (by simp)
                  · rw [if_neg c24] at H
                    exact absurd H (by simp)
                · rw [if_neg c23] at H
                  exact absurd H (by simp)
      · rw [if_neg c2] at H
        have c2b0 : decide (x4_1 < (l0.length : Int)) = false := decide_eq_false c2
        clear c2
        obtain rfl := Option.some.inj H
        go_wp2
        repeat (go_quiet (fail); try go_wp2)
        go_ret
        exact ⟨_, by first | rfl | (simp [errW_none, errW_some] <;> rfl) | (simp [*, errW_none, errW_some] <;> rfl), by (with_reducible repeat (first | apply Kd.R_alloc | apply Kd.R_drewN | apply Kd.R_drew)); exact HO_3.out, by repeat (first | (with_reducible first | exact HB.out | apply below_alloc | apply pw_below_drewN | apply below_drew1) | exact HB.out)⟩


end Go.Proofs.YtkmcbpkciakmeaaGreatDoor.PA

namespace Go.Proofs.YtkmcbpkciakmeaaGreatDoor.PA
open Go.RowKit Go.Proofs.YtkmcbpkciakmeaaGreatDoorW.PrintWords Go.Proofs.YtkmcbpkciakmeaaGreatDoorW.PrintLast Go.Proofs.YtkmcbpkciakmeaaGreatDoorW.PrintMore
attribute [local go_sem] max2_int min2_int max_two min_two max_three min_three max_four min_four   -- for this text's walks alone
set_option linter.unusedVariables false
set_option linter.unusedSimpArgs false
attribute [local go_sem high] binOp_string_gtr_lt

/-! ### wainloadref14_Parents: function 41 -/
def wainloadref14_Parents.l0 : Nat → ByteArray → List ByteArray → Int → Option (List ByteArray)
  | 0, _, _, _ => none
  | k + 1, x0, x3, x4 => if x4 < (x0.size : Int) then (if 0 ≤ x4 then (if (bt x0 x4) = 47 then (if x4 ≤ (x0.size : Int) then (if x3.length < 8796093022208 then (wainloadref14_Parents.l0 k x0 (x3 ++ [x0.extract 0 (x4 : Int).toNat]) (wrap64 (x4 + 1))) else (none)) else (none)) else (wainloadref14_Parents.l0 k x0 x3 (wrap64 (x4 + 1)))) else (none)) else (some x3)
def wainloadref14_Parents.f (k : Nat) (a0 : ByteArray) : Option (List ByteArray) := wainloadref14_Parents.l0 k a0 ([] : List ByteArray) 0
theorem wainloadref14_Parents.mono_l : ∀ k, (∀ y0 y1 y2, LeO (wainloadref14_Parents.l0 k y0 y1 y2) (wainloadref14_Parents.l0 (k + 1) y0 y1 y2))
  | 0 => fun _ _ _ r h => by simp [wainloadref14_Parents.l0] at h
  | k + 1 => by
    have ih0 := wainloadref14_Parents.mono_l k
    · intro y0 y1 y2
      unfold wainloadref14_Parents.l0
      repeat' first
      | (with_reducible exact ih0 _ _ _)
      | (with_reducible exact LeO.refl _)
      | (with_reducible exact LeO.none _)
      | (with_reducible refine LeO.ite ?_ ?_)
      | (with_reducible refine LeO.bind ?_ (fun _ => ?_))
      | exact ih0 _ _ _
      | exact LeO.none _
      | refine LeO.ite ?_ ?_
      | refine LeO.bind ?_ (fun _ => ?_)
theorem wainloadref14_Parents.mono : ∀ a0 k, LeO (wainloadref14_Parents.f k a0) (wainloadref14_Parents.f (k + 1) a0) := by
  intro a0 k
  have ih0 := wainloadref14_Parents.mono_l k
  unfold wainloadref14_Parents.f
  repeat' first
      | (with_reducible exact ih0 _ _ _)
      | (with_reducible exact LeO.refl _)
      | (with_reducible exact LeO.none _)
      | (with_reducible refine LeO.ite ?_ ?_)
      | (with_reducible refine LeO.bind ?_ (fun _ => ?_))
      | exact ih0 _ _ _
      | exact LeO.none _
      | refine LeO.ite ?_ ?_
      | refine LeO.bind ?_ (fun _ => ?_)
set_option maxHeartbeats 8000000 in
set_option maxRecDepth 100000 in
theorem wainloadref14_Parents.calls (k : Nat) (a0 : ByteArray) (r : List ByteArray) (w : World) (h : wainloadref14_Parents.f k a0 = some r) :
    Calls Tryz.prog 41 #[.string a0] w fun e w' => ∃ v0_ : Value, e = .returned (v0_) ∧ Kd.R Kd.string 9 w' w.heap.size (fun _ => True) v0_ r ∧ Below w.heap.size w w' := by
  have HB := Aside0.mk (Below.refl w.heap.size w)
  have H : (wainloadref14_Parents.l0 k a0 ([] : List ByteArray) 0) = some r := h
  clear h
  have H' := Aside0.mk H
  clear H
  go_enter Tryz.func41, Tryz.ntmps41
  go_wp2
  go_loopg [3, 4] k (fun kq v3 v4 w' => ∃ (x3_1 : List ByteArray) (x4_1 : Int), v4 = .int .i64 x4_1 ∧ Aside0 (wainloadref14_Parents.l0 kq a0 x3_1 x4_1 = some r) ∧ Aside0 (kq ≤ k) ∧ Aside0 (Kd.R Kd.string 9 w' w.heap.size (fun _ => True) v3 x3_1) ∧ Aside0 (Below w.heap.size w w'))
  case atStart => exact ⟨(([] : List ByteArray)), (0), (by first | rfl | (simp; done) | (simp [*]; done)), H', ⟨Nat.le_refl _⟩, ⟨by first | exact Kd.R_nil _ _ _ _ _ | exact Kd.N_nil _ _ _ _ _ | exact Kd.V_nil _ _ _ _ _ | exact Kd.Q_nil _ _ _ _ _ | exact Kd.S_nil _ _ _ _ _⟩, ⟨by repeat (first | (with_reducible first | exact HB.out | apply below_alloc | apply pw_below_drewN | apply below_drew1) | exact HB.out)⟩⟩
  case round =>
    clear H'
    obtain ⟨x3_1, x4_1, rfl, HA, HK1, HO_3, HB⟩ := hrel
    cases gk with
    | zero => exact absurd HA.out (by simp [wainloadref14_Parents.l0])
    | succ k1 =>
      have H := HA.out
      clear HA
      simp only [wainloadref14_Parents.l0] at H
      by_cases c2 : x4_1 < (a0.size : Int)
      · rw [if_pos c2] at H
        have c2b0 : decide (x4_1 < (a0.size : Int)) = true := decide_eq_true c2
        clear c2
        by_cases c3 : 0 ≤ x4_1
        · rw [if_pos c3] at H
          have c3b0 : decide (0 ≤ x4_1) = true := decide_eq_true c3
          clear c3
          by_cases c5 : (bt a0 x4_1) = 47
          · rw [if_pos c5] at H
            have c5b0 : ((bt a0 x4_1) == 47) = true := beq_iff_eq.mpr c5
            have c5b1 : ((bt a0 x4_1) != 47) = false := bne_eq_false_iff_eq.mpr c5
            clear c5
            have c6b0 := eq_true (of_decide_eq_true (by first | (with_reducible assumption) | assumption) : 0 ≤ x4_1)
            by_cases c7 : x4_1 ≤ (a0.size : Int)
            · rw [if_pos c7] at H
              have c7b0 := eq_true c7
              have c7b1 : decide (x4_1 ≤ (a0.size : Int)) = true := decide_eq_true c7
              clear c7
              by_cases c8 : x3_1.length < 8796093022208
              · rw [if_pos c8] at H
                have LMc8 := Aside0.mk c8
                clear c8
                obtain ⟨y236, hy236⟩ : ∃ y_ : List ByteArray, y_ = (x3_1 ++ [a0.extract 0 (x4_1 : Int).toNat]) := ⟨_, rfl⟩
                replace H : (wainloadref14_Parents.l0 k1 a0 y236 (wrap64 (x4_1 + 1))) = some r := by first | (rw [hy236]; with_reducible exact H) | (have H2_ := (Option.bind_some _ _).symm.trans H; rw [hy236]; with_reducible exact H2_) | (have H2_ := (Option.bind_some _ _).symm.trans H; with_reducible exact H2_) | with_reducible exact H | (rw [hy236]; exact H) | exact H
                have Ny236 := Aside0.mk hy236
                clear hy236
                have H' := Aside0.mk H
                clear H
                have p4 : 0 ≤ (x4_1 : Int) := of_decide_eq_true (by first | (with_reducible assumption) | assumption)
                have q4 : x4_1 < (a0.size : Int) := of_decide_eq_true (by first | (with_reducible assumption) | assumption)
                have hx4 := bt_at a0 x4_1
                replace p4 := eq_true p4
                replace q4 := eq_true q4
                go_wp2_with (first | ((with_reducible refine gate_builtin (b := .append) (xs := #[.tmp 15, .tmp 19]) rfl ?_); at_builtin; refine Kd.R_append Kd.string (w0 := w) w.heap.size rfl (.tmp 15) (.tmp 19) 75 9 (.string ⟨#[]⟩) 16 rfl Tryz.underlying75 info9 rfl (by decide) (by omega) u3 x3_1 (a0.extract 0 (x4_1 : Int).toNat) [.string (a0.extract 0 (x4_1 : Int).toNat)] (fun _ => True) (fun _ => False) rfl rfl ?aP (fun _ hk => hk.elim) ?aF ?aO ?aB ?aS ?aL ?_; (case aP => exact rfl); (case aB => exact (by repeat (first | (with_reducible first | exact HB.out | apply below_alloc | apply pw_below_drewN | apply below_drew1) | exact HB.out))); (case aF => exact (fun _ _ => trivial)); (case aO => exact (by (with_reducible repeat (first | apply Kd.R_alloc | apply Kd.R_drewN | apply Kd.R_drew)); exact HO_3.out)); (case aS => exact (below_size (by repeat (first | (with_reducible first | exact HB.out | apply below_alloc | apply pw_below_drewN | apply below_drew1) | exact HB.out)))); (case aL => have := LMc8.out; omega); intro v237 w9 ho hb hg hat; rw [← Ny236.out] at ho; have n0_ := Aside0.mk (hb); have n1_ := Aside0.mk (ho); clear HB; clear HO_3; have HB := n0_; have HO238 := n1_; clear n0_ n1_; clear ho hb hg hat))
                go_roundg k1
                case measure => have := HK1.out; omega
                case rel => exact ⟨(y236), (wrap64 (x4_1 + 1)), (by first | rfl | (simp; done) | (simp [*]; done)), H', ⟨by have := HK1.out; omega⟩, ⟨by (with_reducible repeat (first | apply Kd.R_alloc | apply Kd.R_drewN | apply Kd.R_drew)); exact HO238.out⟩, ⟨by repeat (first | (with_reducible first | exact HB.out | apply below_alloc | apply pw_below_drewN | apply below_drew1) | exact HB.out)⟩⟩
              · rw [if_neg c8] at H
                exact absurd H (by simp)
            · rw [if_neg c7] at H
              exact absurd H (by simp)
          · rw [if_neg c5] at H
            have c5b0 : ((bt a0 x4_1) == 47) = false := beq_eq_false_iff_ne.mpr c5
            have c5b1 : ((bt a0 x4_1) != 47) = true := bne_iff_ne.mpr c5
            have H' := Aside0.mk H
            clear H
            have p4 : 0 ≤ (x4_1 : Int) := of_decide_eq_true (by first | (with_reducible assumption) | assumption)
            have q4 : x4_1 < (a0.size : Int) := of_decide_eq_true (by first | (with_reducible assumption) | assumption)
            have hx4 := bt_at a0 x4_1
            replace p4 := eq_true p4
            replace q4 := eq_true q4
            go_wp2
            go_roundg k1
            case measure => have := HK1.out; omega
            case rel => exact ⟨(x3_1), (wrap64 (x4_1 + 1)), (by first | rfl | (simp; done) | (simp [*]; done)), H', ⟨by have := HK1.out; omega⟩, ⟨by (with_reducible repeat (first | apply Kd.R_alloc | apply Kd.R_drewN | apply Kd.R_drew)); exact HO_3.out⟩, ⟨by repeat (first | (with_reducible first | exact HB.out | apply below_alloc | apply pw_below_drewN | apply below_drew1) | exact HB.out)⟩⟩
        · rw [if_neg c3] at H
          exact absurd H (by simp)
      · rw [if_neg c2] at H
        have c2b0 : decide (x4_1 < (a0.size : Int)) = false := decide_eq_false c2
        clear c2
        obtain rfl := Option.some.inj H
        go_wp2
        go_ret
        exact ⟨_, by first | rfl | (simp [errW_none, errW_some] <;> rfl) | (simp [*, errW_none, errW_some] <;> rfl), by (with_reducible repeat (first | apply Kd.R_alloc | apply Kd.R_drewN | apply Kd.R_drew)); exact HO_3.out, by repeat (first | (with_reducible first | exact HB.out | apply below_alloc | apply pw_below_drewN | apply below_drew1) | exact HB.out)⟩

end Go.Proofs.YtkmcbpkciakmeaaGreatDoor.PA
