/- Functions of the seat's translation, told by the kit's print tool over all laws at once: the document's answers on trees. -/
import Derived.Test.YtkmcbpkciakmeaaGreatDoorMprinted
import Derived.Test.YtkmcbpkciakmeaaGreatDoorMprintedb

namespace Go.Proofs.YtkmcbpkciakmeaaGreatDoor.PA
open Go.RowKit Go.Proofs.YtkmcbpkciakmeaaGreatDoorW.PrintWords Go.Proofs.YtkmcbpkciakmeaaGreatDoorW.PrintLast Go.Proofs.YtkmcbpkciakmeaaGreatDoorW.PrintMore
attribute [local go_sem] max2_int min2_int max_two min_two max_three min_three max_four min_four   -- for this text's walks alone
set_option linter.unusedVariables false
set_option linter.unusedSimpArgs false
attribute [local go_sem high] binOp_string_gtr_lt

/-! ### wainloadref14_Letter: function 109 -/
mutual
def wainloadref14_Letter.j0 : Nat → ByteArray → Int → Int → Int → Int → Bool → Option (Int × Int)
  | 0, _, _, _, _, _, _ => none
  | k + 1, x0, x4, x5, x6, x7, x24 => if x24 = true then (wainloadref14_Letter.j2 k x0 2 128 (wrap64 (x4 - 192))) else (if x4 ≥ 224 then (wainloadref14_Letter.j1 k x0 x4 x5 x6 x7 (decide (x4 < 240))) else (wainloadref14_Letter.j1 k x0 x4 x5 x6 x7 false))
def wainloadref14_Letter.j2 : Nat → ByteArray → Int → Int → Int → Option (Int × Int)
  | 0, _, _, _, _ => none
  | k + 1, x0, x5, x6, x7 => if x5 = 0 then (wainloadref14_Letter.j3 k x0 x5 x6 x7 true) else (wainloadref14_Letter.j3 k x0 x5 x6 x7 (decide ((x0.size : Int) < x5)))
def wainloadref14_Letter.j3 : Nat → ByteArray → Int → Int → Int → Bool → Option (Int × Int)
  | 0, _, _, _, _, _ => none
  | k + 1, x0, x5, x6, x7, x50 => if x50 = true then (some (0, 0)) else (wainloadref14_Letter.l0 k x0 x5 x6 x7 1)
def wainloadref14_Letter.l0 : Nat → ByteArray → Int → Int → Int → Int → Option (Int × Int)
  | 0, _, _, _, _, _ => none
  | k + 1, x0, x5, x6, x7, x8 => if x8 < x5 then (if 0 ≤ x8 then (if x8 < (x0.size : Int) then (if (wrap64 (bt x0 x8)) < 128 then (some (0, 0)) else (if (wrap64 (bt x0 x8)) > 191 then (some (0, 0)) else (wainloadref14_Letter.l0 k x0 x5 x6 (wrap64 ((wrap64 ((wrap64 (x7 * 64)) + (wrap64 (bt x0 x8)))) - 128)) (wrap64 (x8 + 1))))) else (none)) else (none)) else (if x7 < x6 then (some (0, 0)) else (if x7 > 1114111 then (some (0, 0)) else (if x7 ≥ 55296 then (if x7 ≤ 57343 then (some (0, 0)) else (some (x7, x5))) else (some (x7, x5)))))
def wainloadref14_Letter.j1 : Nat → ByteArray → Int → Int → Int → Int → Bool → Option (Int × Int)
  | 0, _, _, _, _, _, _ => none
  | k + 1, x0, x4, x5, x6, x7, x32 => if x32 = true then (wainloadref14_Letter.j2 k x0 3 2048 (wrap64 (x4 - 224))) else (if x4 ≥ 240 then (if x4 < 248 then (wainloadref14_Letter.j2 k x0 4 65536 (wrap64 (x4 - 240))) else (wainloadref14_Letter.j2 k x0 x5 x6 x7)) else (wainloadref14_Letter.j2 k x0 x5 x6 x7))
end
def wainloadref14_Letter.f (k : Nat) (a0 : ByteArray) : Option (Int × Int) := if (a0.size : Int) = 0 then (some (0, 0)) else (if 0 < (a0.size : Int) then (if (wrap64 (bt a0 0)) < 128 then (some (wrap64 (bt a0 0), 1)) else (if (wrap64 (bt a0 0)) ≥ 192 then (wainloadref14_Letter.j0 k a0 (wrap64 (bt a0 0)) 0 0 0 (decide ((wrap64 (bt a0 0)) < 224))) else (wainloadref14_Letter.j0 k a0 (wrap64 (bt a0 0)) 0 0 0 false))) else (none))
theorem wainloadref14_Letter.mono_l : ∀ k, (∀ y0 y1 y2 y3 y4 y5, LeO (wainloadref14_Letter.j0 k y0 y1 y2 y3 y4 y5) (wainloadref14_Letter.j0 (k + 1) y0 y1 y2 y3 y4 y5)) ∧ (∀ y0 y1 y2 y3, LeO (wainloadref14_Letter.j2 k y0 y1 y2 y3) (wainloadref14_Letter.j2 (k + 1) y0 y1 y2 y3)) ∧ (∀ y0 y1 y2 y3 y4, LeO (wainloadref14_Letter.j3 k y0 y1 y2 y3 y4) (wainloadref14_Letter.j3 (k + 1) y0 y1 y2 y3 y4)) ∧ (∀ y0 y1 y2 y3 y4, LeO (wainloadref14_Letter.l0 k y0 y1 y2 y3 y4) (wainloadref14_Letter.l0 (k + 1) y0 y1 y2 y3 y4)) ∧ (∀ y0 y1 y2 y3 y4 y5, LeO (wainloadref14_Letter.j1 k y0 y1 y2 y3 y4 y5) (wainloadref14_Letter.j1 (k + 1) y0 y1 y2 y3 y4 y5))
  | 0 => ⟨fun _ _ _ _ _ _ r h => by simp [wainloadref14_Letter.j0] at h, fun _ _ _ _ r h => by simp [wainloadref14_Letter.j2] at h, fun _ _ _ _ _ r h => by simp [wainloadref14_Letter.j3] at h, fun _ _ _ _ _ r h => by simp [wainloadref14_Letter.l0] at h, fun _ _ _ _ _ _ r h => by simp [wainloadref14_Letter.j1] at h⟩
  | k + 1 => by
    obtain ⟨ih0, ih1, ih2, ih3, ih4⟩ := wainloadref14_Letter.mono_l k
    refine ⟨?_, ?_, ?_, ?_, ?_⟩
    · intro y0 y1 y2 y3 y4 y5
      unfold wainloadref14_Letter.j0
      repeat' first
      | (with_reducible exact ih0 _ _ _ _ _ _)
      | (with_reducible exact ih1 _ _ _ _)
      | (with_reducible exact ih2 _ _ _ _ _)
      | (with_reducible exact ih3 _ _ _ _ _)
      | (with_reducible exact ih4 _ _ _ _ _ _)
      | (with_reducible exact LeO.refl _)
      | (with_reducible exact LeO.none _)
      | (with_reducible refine LeO.ite ?_ ?_)
      | (with_reducible refine LeO.bind ?_ (fun _ => ?_))
      | exact ih0 _ _ _ _ _ _
      | exact ih1 _ _ _ _
      | exact ih2 _ _ _ _ _
      | exact ih3 _ _ _ _ _
      | exact ih4 _ _ _ _ _ _
      | exact LeO.none _
      | refine LeO.ite ?_ ?_
      | refine LeO.bind ?_ (fun _ => ?_)
    · intro y0 y1 y2 y3
      unfold wainloadref14_Letter.j2
      repeat' first
      | (with_reducible exact ih0 _ _ _ _ _ _)
      | (with_reducible exact ih1 _ _ _ _)
      | (with_reducible exact ih2 _ _ _ _ _)
      | (with_reducible exact ih3 _ _ _ _ _)
      | (with_reducible exact ih4 _ _ _ _ _ _)
      | (with_reducible exact LeO.refl _)
      | (with_reducible exact LeO.none _)
      | (with_reducible refine LeO.ite ?_ ?_)
      | (with_reducible refine LeO.bind ?_ (fun _ => ?_))
      | exact ih0 _ _ _ _ _ _
      | exact ih1 _ _ _ _
      | exact ih2 _ _ _ _ _
      | exact ih3 _ _ _ _ _
      | exact ih4 _ _ _ _ _ _
      | exact LeO.none _
      | refine LeO.ite ?_ ?_
      | refine LeO.bind ?_ (fun _ => ?_)
    · intro y0 y1 y2 y3 y4
      unfold wainloadref14_Letter.j3
      repeat' first
      | (with_reducible exact ih0 _ _ _ _ _ _)
      | (with_reducible exact ih1 _ _ _ _)
      | (with_reducible exact ih2 _ _ _ _ _)
      | (with_reducible exact ih3 _ _ _ _ _)
      | (with_reducible exact ih4 _ _ _ _ _ _)
      | (with_reducible exact LeO.refl _)
      | (with_reducible exact LeO.none _)
      | (with_reducible refine LeO.ite ?_ ?_)
      | (with_reducible refine LeO.bind ?_ (fun _ => ?_))
      | exact ih0 _ _ _ _ _ _
      | exact ih1 _ _ _ _
      | exact ih2 _ _ _ _ _
      | exact ih3 _ _ _ _ _
      | exact ih4 _ _ _ _ _ _
      | exact LeO.none _
      | refine LeO.ite ?_ ?_
      | refine LeO.bind ?_ (fun _ => ?_)
    · intro y0 y1 y2 y3 y4
      unfold wainloadref14_Letter.l0
      repeat' first
      | (with_reducible exact ih0 _ _ _ _ _ _)
      | (with_reducible exact ih1 _ _ _ _)
      | (with_reducible exact ih2 _ _ _ _ _)
      | (with_reducible exact ih3 _ _ _ _ _)
      | (with_reducible exact ih4 _ _ _ _ _ _)
      | (with_reducible exact LeO.refl _)
      | (with_reducible exact LeO.none _)
      | (with_reducible refine LeO.ite ?_ ?_)
      | (with_reducible refine LeO.bind ?_ (fun _ => ?_))
      | exact ih0 _ _ _ _ _ _
      | exact ih1 _ _ _ _
      | exact ih2 _ _ _ _ _
      | exact ih3 _ _ _ _ _
      | exact ih4 _ _ _ _ _ _
      | exact LeO.none _
      | refine LeO.ite ?_ ?_
      | refine LeO.bind ?_ (fun _ => ?_)
    · intro y0 y1 y2 y3 y4 y5
      unfold wainloadref14_Letter.j1
      repeat' first
      | (with_reducible exact ih0 _ _ _ _ _ _)
      | (with_reducible exact ih1 _ _ _ _)
      | (with_reducible exact ih2 _ _ _ _ _)
      | (with_reducible exact ih3 _ _ _ _ _)
      | (with_reducible exact ih4 _ _ _ _ _ _)
      | (with_reducible exact LeO.refl _)
      | (with_reducible exact LeO.none _)
      | (with_reducible refine LeO.ite ?_ ?_)
      | (with_reducible refine LeO.bind ?_ (fun _ => ?_))
      | exact ih0 _ _ _ _ _ _
      | exact ih1 _ _ _ _
      | exact ih2 _ _ _ _ _
      | exact ih3 _ _ _ _ _
      | exact ih4 _ _ _ _ _ _
      | exact LeO.none _
      | refine LeO.ite ?_ ?_
      | refine LeO.bind ?_ (fun _ => ?_)
theorem wainloadref14_Letter.mono : ∀ a0 k, LeO (wainloadref14_Letter.f k a0) (wainloadref14_Letter.f (k + 1) a0) := by
  intro a0 k
  obtain ⟨ih0, ih1, ih2, ih3, ih4⟩ := wainloadref14_Letter.mono_l k
  unfold wainloadref14_Letter.f
  repeat' first
      | (with_reducible exact ih0 _ _ _ _ _ _)
      | (with_reducible exact ih1 _ _ _ _)
      | (with_reducible exact ih2 _ _ _ _ _)
      | (with_reducible exact ih3 _ _ _ _ _)
      | (with_reducible exact ih4 _ _ _ _ _ _)
      | (with_reducible exact LeO.refl _)
      | (with_reducible exact LeO.none _)
      | (with_reducible refine LeO.ite ?_ ?_)
      | (with_reducible refine LeO.bind ?_ (fun _ => ?_))
      | exact ih0 _ _ _ _ _ _
      | exact ih1 _ _ _ _
      | exact ih2 _ _ _ _ _
      | exact ih3 _ _ _ _ _
      | exact ih4 _ _ _ _ _ _
      | exact LeO.none _
      | refine LeO.ite ?_ ?_
      | refine LeO.bind ?_ (fun _ => ?_)
set_option maxHeartbeats 8000000 in
set_option maxRecDepth 100000 in
theorem wainloadref14_Letter.calls (k : Nat) (a0 : ByteArray) (r1 : Int) (r2 : Int) (w : World) (h : wainloadref14_Letter.f k a0 = some (r1, r2)) :
    Calls Tryz.prog 109 #[.string a0] w fun e w' => e = .returned (.tuple #[.int .i64 r1, .int .i64 r2]) ∧ Drawn0 w w' := by
  have H : (if (a0.size : Int) = 0 then (some (0, 0)) else (if 0 < (a0.size : Int) then (if (wrap64 (bt a0 0)) < 128 then (some (wrap64 (bt a0 0), 1)) else (if (wrap64 (bt a0 0)) ≥ 192 then (wainloadref14_Letter.j0 k a0 (wrap64 (bt a0 0)) 0 0 0 (decide ((wrap64 (bt a0 0)) < 224))) else (wainloadref14_Letter.j0 k a0 (wrap64 (bt a0 0)) 0 0 0 false))) else (none))) = some (r1, r2) := h
  clear h
  by_cases c2 : (a0.size : Int) = 0
  · rw [if_pos c2] at H
    have c2b0 : ((a0.size : Int) == 0) = true := beq_iff_eq.mpr c2
    have c2b1 : ((a0.size : Int) != 0) = false := bne_eq_false_iff_eq.mpr c2
    clear c2
    simp only [Option.some.injEq, Prod.mk.injEq] at H
    obtain ⟨rfl, rfl⟩ := H
    go_enter Tryz.func109, Tryz.ntmps109
    go_wp2
    go_ret2
    exact ⟨by first | rfl | (simp; done) | (simp [*]; done), by repeat (first | exact Drawn0.refl _ | apply Drawn0.step)⟩
  · rw [if_neg c2] at H
    have c2b0 : ((a0.size : Int) == 0) = false := beq_eq_false_iff_ne.mpr c2
    have c2b1 : ((a0.size : Int) != 0) = true := bne_iff_ne.mpr c2
    by_cases c3 : 0 < (a0.size : Int)
    · rw [if_pos c3] at H
      have c3b0 : decide (0 < (a0.size : Int)) = true := decide_eq_true c3
      have c3b1 : decide (0 < a0.size) = true := decide_eq_true (by omega)
      clear c3
      by_cases c5 : (wrap64 (bt a0 0)) < 128
      · rw [if_pos c5] at H
        have c5b0 : decide ((wrap64 (bt a0 0)) < 128) = true := decide_eq_true c5
        clear c5
        simp only [Option.some.injEq, Prod.mk.injEq] at H
        obtain ⟨rfl, rfl⟩ := H
        have p4 : 0 ≤ (0 : Int) := (by omega)
        have q4 : 0 < a0.size := (by have : (0 : Int) < (a0.size : Int) := of_decide_eq_true (by first | (with_reducible assumption) | assumption); omega)
        have hx4 : ∀ h : 0 < a0.size, ((a0[0]'h).toNat : Int) = bt a0 0 := bt_at a0 0
        clear p4
        have qi4 : (0 < (a0.size : Int)) = True := eq_true (of_decide_eq_true (by first | (with_reducible assumption) | assumption))
        replace q4 := eq_true q4
        go_enter Tryz.func109, Tryz.ntmps109
        go_wp2
        go_ret2
        exact ⟨by first | rfl | (simp; done) | (simp [*]; done), by repeat (first | exact Drawn0.refl _ | apply Drawn0.step)⟩
      · rw [if_neg c5] at H
        have c5b0 : decide ((wrap64 (bt a0 0)) < 128) = false := decide_eq_false c5
        clear c5
        have HC6 := Aside0.mk H
        clear H
        have p4 : 0 ≤ (0 : Int) := (by omega)
        have q4 : 0 < a0.size := (by have : (0 : Int) < (a0.size : Int) := of_decide_eq_true (by first | (with_reducible assumption) | assumption); omega)
        have hx4 : ∀ h : 0 < a0.size, ((a0[0]'h).toNat : Int) = bt a0 0 := bt_at a0 0
        clear p4
        have qi4 : (0 < (a0.size : Int)) = True := eq_true (of_decide_eq_true (by first | (with_reducible assumption) | assumption))
        replace q4 := eq_true q4
        go_enter Tryz.func109, Tryz.ntmps109
        go_upto_region 9 with (fail)
        go_cut [24] (fun v24 wc => ∃ (kq : Nat) (x24_5 : Bool), v24 = .bool x24_5 ∧ Aside0 (wainloadref14_Letter.j0 kq a0 (wrap64 (bt a0 0)) 0 0 0 x24_5 = some (r1, r2)) ∧ Aside0 (kq ≤ k) ∧ Drawn0 w wc)
        case first =>
          have H := HC6.out
          clear HC6
          by_cases c7 : (wrap64 (bt a0 0)) ≥ 192
          · rw [if_pos c7] at H
            have c7b0 : decide (192 ≤ (wrap64 (bt a0 0))) = true := decide_eq_true c7
            clear c7
            (first | rw [c7b0] | (simp only [i64_w, i32_w]; rw [c7b0]) | skip)
            have H' := Aside0.mk H
            clear H
            go_wp2
            go_meet
            case rel => exact ⟨_, (decide ((wrap64 (bt a0 0)) < 224)), (by first | rfl | (simp; done) | (simp [*]; done)), H', ⟨by first | omega | exact Nat.le_refl _⟩, by repeat (first | exact Drawn0.refl _ | apply Drawn0.step)⟩
          · rw [if_neg c7] at H
            have c7b0 : decide (192 ≤ (wrap64 (bt a0 0))) = false := decide_eq_false c7
            clear c7
            (first | rw [c7b0] | (simp only [i64_w, i32_w]; rw [c7b0]) | skip)
            have H' := Aside0.mk H
            clear H
            go_wp2
            go_meet
            case rel => exact ⟨_, (false), (by first | rfl | (simp; done) | (simp [*]; done)), H', ⟨by first | omega | exact Nat.le_refl _⟩, by repeat (first | exact Drawn0.refl _ | apply Drawn0.step)⟩
        case rest =>
          clear HC6
          try clear c1
          try clear c2
          try clear c2b0
          try clear c2b1
          try clear p2
          try clear c3
          try clear c3b0
          try clear c3b1
          try clear p4
          try clear q4
          try clear hx4
          try clear qi4
          try clear c5
          try clear c5b0
          try clear p6
          try clear c7
          try clear c7b0
          try clear p4
          try clear q4
          obtain ⟨kq, x24_5, rfl, HA, HJ5, ⟨mc5, rfl⟩⟩ := hcut
          cases kq with
          | zero => exact absurd HA.out (by simp [wainloadref14_Letter.j0])
          | succ kj5 =>
            have H := HA.out
            clear HA
            simp only [wainloadref14_Letter.j0] at H
            have HC8 := Aside0.mk H
            clear H
            go_upto_if 24 with (fail)
            go_cut [5, 6, 7] (fun v5 v6 v7 wc => ∃ (kq : Nat) (x5_7 : Int) (x6_7 : Int) (x7_7 : Int), v5 = .int .i64 x5_7 ∧ v6 = .int .i64 x6_7 ∧ v7 = .int .i64 x7_7 ∧ Aside0 (wainloadref14_Letter.j2 kq a0 x5_7 x6_7 x7_7 = some (r1, r2)) ∧ Aside0 (kq ≤ kj5) ∧ Drawn0 w wc)
            case first =>
              have H := HC8.out
              clear HC8
              by_cases c9 : x24_5 = true
              · subst c9
                have H1 : (wainloadref14_Letter.j2 kj5 a0 2 128 (wrap64 ((wrap64 (bt a0 0)) - 192))) = some (r1, r2) := by rw [if_pos rfl] at H; exact H
                clear H
                have H := H1
                clear H1
                have H' := Aside0.mk H
                clear H
                go_wp2
                go_meet
                case rel => exact ⟨_, (2), (128), (wrap64 ((wrap64 (bt a0 0)) - 192)), (by first | rfl | (simp; done) | (simp [*]; done)), (by first | rfl | (simp; done) | (simp [*]; done)), (by first | rfl | (simp; done) | (simp [*]; done)), H', ⟨by have := HJ5.out; first | omega | exact Nat.le_refl _⟩, by repeat (first | exact Drawn0.refl _ | apply Drawn0.step)⟩
              · replace c9 := Bool.eq_false_iff.mpr c9
                subst c9
                have H1 : (if (wrap64 (bt a0 0)) ≥ 224 then (wainloadref14_Letter.j1 kj5 a0 (wrap64 (bt a0 0)) 0 0 0 (decide ((wrap64 (bt a0 0)) < 240))) else (wainloadref14_Letter.j1 kj5 a0 (wrap64 (bt a0 0)) 0 0 0 false)) = some (r1, r2) := by rw [if_neg (show ¬ (false = true) by decide)] at H; exact H
                clear H
                have H := H1
                clear H1
                have HC10 := Aside0.mk H
                clear H
                go_upto_region 13 with (fail)
                go_cut [32] (fun v32 wc => ∃ (kq : Nat) (x32_9 : Bool), v32 = .bool x32_9 ∧ Aside0 (wainloadref14_Letter.j1 kq a0 (wrap64 (bt a0 0)) 0 0 0 x32_9 = some (r1, r2)) ∧ Aside0 (kq ≤ kj5) ∧ Drawn0 w wc)
                case first =>
                  have H := HC10.out
                  clear HC10
                  by_cases c11 : (wrap64 (bt a0 0)) ≥ 224
                  · rw [if_pos c11] at H
                    have c11b0 : decide (224 ≤ (wrap64 (bt a0 0))) = true := decide_eq_true c11
                    clear c11
                    (first | rw [c11b0] | (simp only [i64_w, i32_w]; rw [c11b0]) | skip)
                    have H' := Aside0.mk H
                    clear H
                    go_wp2
                    go_meet
                    case rel => exact ⟨_, (decide ((wrap64 (bt a0 0)) < 240)), (by first | rfl | (simp; done) | (simp [*]; done)), H', ⟨by have := HJ5.out; first | omega | exact Nat.le_refl _⟩, by repeat (first | exact Drawn0.refl _ | apply Drawn0.step)⟩
                  · rw [if_neg c11] at H
                    have c11b0 : decide (224 ≤ (wrap64 (bt a0 0))) = false := decide_eq_false c11
                    clear c11
                    (first | rw [c11b0] | (simp only [i64_w, i32_w]; rw [c11b0]) | skip)
                    have H' := Aside0.mk H
                    clear H
                    go_wp2
                    go_meet
                    case rel => exact ⟨_, (false), (by first | rfl | (simp; done) | (simp [*]; done)), H', ⟨by have := HJ5.out; first | omega | exact Nat.le_refl _⟩, by repeat (first | exact Drawn0.refl _ | apply Drawn0.step)⟩
                case rest =>
                  clear HC10
                  try clear c1
                  try clear c2
                  try clear c2b0
                  try clear c2b1
                  try clear p2
                  try clear c3
                  try clear c3b0
                  try clear c3b1
                  try clear p4
                  try clear q4
                  try clear hx4
                  try clear qi4
                  try clear c5
                  try clear c5b0
                  try clear p6
                  try clear c7
                  try clear c7b0
                  try clear c9
                  try clear c10
                  try clear c11
                  try clear c11b0
                  try clear p2
                  try clear p4
                  try clear p6
                  try clear q4
                  obtain ⟨kq, x32_9, rfl, HA, HJ9, ⟨mc9, rfl⟩⟩ := hcut
                  cases kq with
                  | zero => exact absurd HA.out (by simp [wainloadref14_Letter.j1])
                  | succ kj9 =>
                    have H := HA.out
                    clear HA
                    simp only [wainloadref14_Letter.j1] at H
                    by_cases c12 : x32_9 = true
                    · subst c12
                      have H1 : (wainloadref14_Letter.j2 kj9 a0 3 2048 (wrap64 ((wrap64 (bt a0 0)) - 224))) = some (r1, r2) := by rw [if_pos rfl] at H; exact H
                      clear H
                      have H := H1
                      clear H1
                      have H' := Aside0.mk H
                      clear H
                      go_wp2
                      go_meet
                      case rel => exact ⟨_, (3), (2048), (wrap64 ((wrap64 (bt a0 0)) - 224)), (by first | rfl | (simp; done) | (simp [*]; done)), (by first | rfl | (simp; done) | (simp [*]; done)), (by first | rfl | (simp; done) | (simp [*]; done)), H', ⟨by have := HJ5.out; have := HJ9.out; first | omega | exact Nat.le_refl _⟩, by repeat (first | exact Drawn0.refl _ | apply Drawn0.step)⟩
                    · replace c12 := Bool.eq_false_iff.mpr c12
                      subst c12
                      have H1 : (if (wrap64 (bt a0 0)) ≥ 240 then (if (wrap64 (bt a0 0)) < 248 then (wainloadref14_Letter.j2 kj9 a0 4 65536 (wrap64 ((wrap64 (bt a0 0)) - 240))) else (wainloadref14_Letter.j2 kj9 a0 0 0 0)) else (wainloadref14_Letter.j2 kj9 a0 0 0 0)) = some (r1, r2) := by rw [if_neg (show ¬ (false = true) by decide)] at H; exact H
                      clear H
                      have H := H1
                      clear H1
                      by_cases c13 : (wrap64 (bt a0 0)) ≥ 240
                      · rw [if_pos c13] at H
                        have c13b0 : decide (240 ≤ (wrap64 (bt a0 0))) = true := decide_eq_true c13
                        clear c13
                        by_cases c14 : (wrap64 (bt a0 0)) < 248
                        · rw [if_pos c14] at H
                          have c14b0 : decide ((wrap64 (bt a0 0)) < 248) = true := decide_eq_true c14
                          clear c14
                          have H' := Aside0.mk H
                          clear H
                          go_wp2
                          go_meet
                          case rel => exact ⟨_, (4), (65536), (wrap64 ((wrap64 (bt a0 0)) - 240)), (by first | rfl | (simp; done) | (simp [*]; done)), (by first | rfl | (simp; done) | (simp [*]; done)), (by first | rfl | (simp; done) | (simp [*]; done)), H', ⟨by have := HJ5.out; have := HJ9.out; first | omega | exact Nat.le_refl _⟩, by repeat (first | exact Drawn0.refl _ | apply Drawn0.step)⟩
                        · rw [if_neg c14] at H
                          have c14b0 : decide ((wrap64 (bt a0 0)) < 248) = false := decide_eq_false c14
                          clear c14
                          have H' := Aside0.mk H
                          clear H
                          go_wp2
                          go_meet
                          case rel => exact ⟨_, (0), (0), (0), (by first | rfl | (simp; done) | (simp [*]; done)), (by first | rfl | (simp; done) | (simp [*]; done)), (by first | rfl | (simp; done) | (simp [*]; done)), H', ⟨by have := HJ5.out; have := HJ9.out; first | omega | exact Nat.le_refl _⟩, by repeat (first | exact Drawn0.refl _ | apply Drawn0.step)⟩
                      · rw [if_neg c13] at H
                        have c13b0 : decide (240 ≤ (wrap64 (bt a0 0))) = false := decide_eq_false c13
                        clear c13
                        have H' := Aside0.mk H
                        clear H
                        go_wp2
                        go_meet
                        case rel => exact ⟨_, (0), (0), (0), (by first | rfl | (simp; done) | (simp [*]; done)), (by first | rfl | (simp; done) | (simp [*]; done)), (by first | rfl | (simp; done) | (simp [*]; done)), H', ⟨by have := HJ5.out; have := HJ9.out; first | omega | exact Nat.le_refl _⟩, by repeat (first | exact Drawn0.refl _ | apply Drawn0.step)⟩
            case rest =>
              clear HC8
              try clear c1
              try clear c2
              try clear c2b0
              try clear c2b1
              try clear p2
              try clear c3
              try clear c3b0
              try clear c3b1
              try clear p4
              try clear q4
              try clear hx4
              try clear qi4
              try clear c5
              try clear c5b0
              try clear p6
              try clear c7
              try clear c7b0
              try clear c9
              try clear c10
              try clear c11
              try clear c11b0
              try clear c12
              try clear c13
              try clear c13b0
              try clear c14
              try clear c14b0
              try clear p2
              try clear p4
              try clear p6
              try clear q4
              obtain ⟨kq, x5_7, x6_7, x7_7, rfl, rfl, rfl, HA, HJ7, ⟨mc7, rfl⟩⟩ := hcut
              cases kq with
              | zero => exact absurd HA.out (by simp [wainloadref14_Letter.j2])
              | succ kj7 =>
                have H := HA.out
                clear HA
                simp only [wainloadref14_Letter.j2] at H
                have HC15 := Aside0.mk H
                clear H
                go_upto_region 21 with (fail)
                go_cut [50] (fun v50 wc => ∃ (kq : Nat) (x50_14 : Bool), v50 = .bool x50_14 ∧ Aside0 (wainloadref14_Letter.j3 kq a0 x5_7 x6_7 x7_7 x50_14 = some (r1, r2)) ∧ Aside0 (kq ≤ kj7) ∧ Drawn0 w wc)
                case first =>
                  have H := HC15.out
                  clear HC15
                  by_cases c16 : x5_7 = 0
                  · rw [if_pos c16] at H
                    have c16b0 : (x5_7 == 0) = true := beq_iff_eq.mpr c16
                    have c16b1 : (x5_7 != 0) = false := bne_eq_false_iff_eq.mpr c16
                    clear c16
                    (first | rw [c16b0] | (simp only [i64_w, i32_w]; rw [c16b0]) | skip)
                    have H' := Aside0.mk H
                    clear H
                    go_wp2
                    go_meet
                    case rel => exact ⟨_, (true), (by first | rfl | (simp; done) | (simp [*]; done)), H', ⟨by have := HJ5.out; have := HJ7.out; first | omega | exact Nat.le_refl _⟩, by repeat (first | exact Drawn0.refl _ | apply Drawn0.step)⟩
                  · rw [if_neg c16] at H
                    have c16b0 : (x5_7 == 0) = false := beq_eq_false_iff_ne.mpr c16
                    have c16b1 : (x5_7 != 0) = true := bne_iff_ne.mpr c16
                    (first | rw [c16b0] | (simp only [i64_w, i32_w]; rw [c16b0]) | skip)
                    have H' := Aside0.mk H
                    clear H
                    go_wp2
                    go_meet
                    case rel => exact ⟨_, (decide ((a0.size : Int) < x5_7)), (by first | rfl | (simp; done) | (simp [*]; done)), H', ⟨by have := HJ5.out; have := HJ7.out; first | omega | exact Nat.le_refl _⟩, by repeat (first | exact Drawn0.refl _ | apply Drawn0.step)⟩
                case rest =>
                  clear HC15
                  try clear c1
                  try clear c2
                  try clear c2b0
                  try clear c2b1
                  try clear p2
                  try clear c3
                  try clear c3b0
                  try clear c3b1
                  try clear p4
                  try clear q4
                  try clear hx4
                  try clear qi4
                  try clear c5
                  try clear c5b0
                  try clear p6
                  try clear c7
                  try clear c7b0
                  try clear c9
                  try clear c10
                  try clear c11
                  try clear c11b0
                  try clear c12
                  try clear c13
                  try clear c13b0
                  try clear c14
                  try clear c14b0
                  try clear c16
                  try clear c16b0
                  try clear c16b1
                  try clear p2
                  try clear p4
                  try clear p6
                  try clear q4
                  obtain ⟨kq, x50_14, rfl, HA, HJ14, ⟨mc14, rfl⟩⟩ := hcut
                  cases kq with
                  | zero => exact absurd HA.out (by simp [wainloadref14_Letter.j3])
                  | succ kj14 =>
                    have H := HA.out
                    clear HA
                    simp only [wainloadref14_Letter.j3] at H
                    by_cases c17 : x50_14 = true
                    · subst c17
                      have H1 : (some (0, 0)) = some (r1, r2) := by rw [if_pos rfl] at H; exact H
                      clear H
                      have H := H1
                      clear H1
                      simp only [Option.some.injEq, Prod.mk.injEq] at H
                      obtain ⟨rfl, rfl⟩ := H
                      go_wp2
                      go_ret2
                      exact ⟨by first | rfl | (simp; done) | (simp [*]; done), by repeat (first | exact Drawn0.refl _ | apply Drawn0.step)⟩
                    · replace c17 := Bool.eq_false_iff.mpr c17
                      subst c17
                      have H1 : (wainloadref14_Letter.l0 kj14 a0 x5_7 x6_7 x7_7 1) = some (r1, r2) := by rw [if_neg (show ¬ (false = true) by decide)] at H; exact H
                      clear H
                      have H := H1
                      clear H1
                      have H' := Aside0.mk H
                      clear H
                      go_wp2
                      go_loopg [7, 8] kj14 (fun kq v7 v8 w' => ∃ (x7_4 : Int) (x8_4 : Int), v7 = .int .i64 x7_4 ∧ v8 = .int .i64 x8_4 ∧ Aside0 (wainloadref14_Letter.l0 kq a0 x5_7 x6_7 x7_4 x8_4 = some (r1, r2)) ∧ Aside0 (kq ≤ kj14) ∧ Drawn0 w w')
                      case atStart => exact ⟨(x7_7), (1), (by first | rfl | (simp; done) | (simp [*]; done)), (by first | rfl | (simp; done) | (simp [*]; done)), H', ⟨Nat.le_refl _⟩, by repeat (first | exact Drawn0.refl _ | apply Drawn0.step)⟩
                      case round =>
                        clear H'
                        try clear c1
                        try clear c2
                        try clear c2b0
                        try clear c2b1
                        try clear p2
                        try clear c3
                        try clear c3b0
                        try clear c3b1
                        try clear p4
                        try clear q4
                        try clear hx4
                        try clear qi4
                        try clear c5
                        try clear c5b0
                        try clear p6
                        try clear c7
                        try clear c7b0
                        try clear c9
                        try clear c10
                        try clear c11
                        try clear c11b0
                        try clear c12
                        try clear c13
                        try clear c13b0
                        try clear c14
                        try clear c14b0
                        try clear c16
                        try clear c16b0
                        try clear c16b1
                        try clear c17
                        try clear p2
                        try clear p4
                        try clear p6
                        try clear q4
                        obtain ⟨x7_4, x8_4, rfl, rfl, HA, HK4, ⟨m4, rfl⟩⟩ := hrel
                        cases gk with
                        | zero => exact absurd HA.out (by simp [wainloadref14_Letter.l0])
                        | succ k4 =>
                          have H := HA.out
                          clear HA
                          simp only [wainloadref14_Letter.l0] at H
                          by_cases c18 : x8_4 < x5_7
                          · rw [if_pos c18] at H
                            have c18b0 : decide (x8_4 < x5_7) = true := decide_eq_true c18
                            clear c18
                            by_cases c19 : 0 ≤ x8_4
                            · rw [if_pos c19] at H
                              have c19b0 : decide (0 ≤ x8_4) = true := decide_eq_true c19
                              clear c19
                              by_cases c20 : x8_4 < (a0.size : Int)
                              · rw [if_pos c20] at H
                                have c20b0 : decide (x8_4 < (a0.size : Int)) = true := decide_eq_true c20
                                clear c20
                                by_cases c22 : (wrap64 (bt a0 x8_4)) < 128
                                · rw [if_pos c22] at H
                                  have c22b0 : decide ((wrap64 (bt a0 x8_4)) < 128) = true := decide_eq_true c22
                                  clear c22
                                  simp only [Option.some.injEq, Prod.mk.injEq] at H
                                  obtain ⟨rfl, rfl⟩ := H
                                  have p21 : 0 ≤ (x8_4 : Int) := of_decide_eq_true (by first | (with_reducible assumption) | assumption)
                                  have q21 : x8_4 < (a0.size : Int) := of_decide_eq_true (by first | (with_reducible assumption) | assumption)
                                  have hx21 := bt_at a0 x8_4
                                  replace p21 := eq_true p21
                                  replace q21 := eq_true q21
                                  go_wp2
                                  go_ret2
                                  exact ⟨by first | rfl | (simp; done) | (simp [*]; done), by repeat (first | exact Drawn0.refl _ | apply Drawn0.step)⟩
                                · rw [if_neg c22] at H
                                  have c22b0 : decide ((wrap64 (bt a0 x8_4)) < 128) = false := decide_eq_false c22
                                  clear c22
                                  by_cases c23 : (wrap64 (bt a0 x8_4)) > 191
                                  · rw [if_pos c23] at H
                                    have c23b0 : decide (191 < (wrap64 (bt a0 x8_4))) = true := decide_eq_true c23
                                    clear c23
                                    simp only [Option.some.injEq, Prod.mk.injEq] at H
                                    obtain ⟨rfl, rfl⟩ := H
                                    have p21 : 0 ≤ (x8_4 : Int) := of_decide_eq_true (by first | (with_reducible assumption) | assumption)
                                    have q21 : x8_4 < (a0.size : Int) := of_decide_eq_true (by first | (with_reducible assumption) | assumption)
                                    have hx21 := bt_at a0 x8_4
                                    replace p21 := eq_true p21
                                    replace q21 := eq_true q21
                                    go_wp2
                                    go_ret2
                                    exact ⟨by first | rfl | (simp; done) | (simp [*]; done), by repeat (first | exact Drawn0.refl _ | apply Drawn0.step)⟩
                                  · rw [if_neg c23] at H
                                    have c23b0 : decide (191 < (wrap64 (bt a0 x8_4))) = false := decide_eq_false c23
                                    clear c23
                                    have H' := Aside0.mk H
                                    clear H
                                    have p21 : 0 ≤ (x8_4 : Int) := of_decide_eq_true (by first | (with_reducible assumption) | assumption)
                                    have q21 : x8_4 < (a0.size : Int) := of_decide_eq_true (by first | (with_reducible assumption) | assumption)
                                    have hx21 := bt_at a0 x8_4
                                    replace p21 := eq_true p21
                                    replace q21 := eq_true q21
                                    go_wp2
                                    go_roundg k4
                                    case measure => have := HJ5.out; have := HJ7.out; have := HJ14.out; have := HK4.out; omega
                                    case rel => exact ⟨(wrap64 ((wrap64 ((wrap64 (x7_4 * 64)) + (wrap64 (bt a0 x8_4)))) - 128)), (wrap64 (x8_4 + 1)), (by first | rfl | (simp; done) | (simp [*]; done)), (by first | rfl | (simp; done) | (simp [*]; done)), H', ⟨by have := HJ5.out; have := HJ7.out; have := HJ14.out; have := HK4.out; omega⟩, by repeat (first | exact Drawn0.refl _ | apply Drawn0.step)⟩
                              · rw [if_neg c20] at H
                                exact absurd H (by simp)
                            · rw [if_neg c19] at H
                              exact absurd H (by simp)
                          · rw [if_neg c18] at H
                            have c18b0 : decide (x8_4 < x5_7) = false := decide_eq_false c18
                            clear c18
                            by_cases c24 : x7_4 < x6_7
                            · rw [if_pos c24] at H
                              have c24b0 : decide (x7_4 < x6_7) = true := decide_eq_true c24
                              clear c24
                              simp only [Option.some.injEq, Prod.mk.injEq] at H
                              obtain ⟨rfl, rfl⟩ := H
                              go_wp2
                              go_ret2
                              exact ⟨by first | rfl | (simp; done) | (simp [*]; done), by repeat (first | exact Drawn0.refl _ | apply Drawn0.step)⟩
                            · rw [if_neg c24] at H
                              have c24b0 : decide (x7_4 < x6_7) = false := decide_eq_false c24
                              clear c24
                              by_cases c25 : x7_4 > 1114111
                              · rw [if_pos c25] at H
                                have c25b0 : decide (1114111 < x7_4) = true := decide_eq_true c25
                                clear c25
                                simp only [Option.some.injEq, Prod.mk.injEq] at H
                                obtain ⟨rfl, rfl⟩ := H
                                go_wp2
                                go_ret2
                                exact ⟨by first | rfl | (simp; done) | (simp [*]; done), by repeat (first | exact Drawn0.refl _ | apply Drawn0.step)⟩
                              · rw [if_neg c25] at H
                                have c25b0 : decide (1114111 < x7_4) = false := decide_eq_false c25
                                clear c25
                                by_cases c26 : x7_4 ≥ 55296
                                · rw [if_pos c26] at H
                                  have c26b0 : decide (55296 ≤ x7_4) = true := decide_eq_true c26
                                  clear c26
                                  by_cases c27 : x7_4 ≤ 57343
                                  · rw [if_pos c27] at H
                                    have c27b0 : decide (x7_4 ≤ 57343) = true := decide_eq_true c27
                                    clear c27
                                    simp only [Option.some.injEq, Prod.mk.injEq] at H
                                    obtain ⟨rfl, rfl⟩ := H
                                    go_wp2
                                    go_ret2
                                    exact ⟨by first | rfl | (simp; done) | (simp [*]; done), by repeat (first | exact Drawn0.refl _ | apply Drawn0.step)⟩
                                  · rw [if_neg c27] at H
                                    have c27b0 : decide (x7_4 ≤ 57343) = false := decide_eq_false c27
                                    clear c27
                                    simp only [Option.some.injEq, Prod.mk.injEq] at H
                                    obtain ⟨rfl, rfl⟩ := H
                                    go_wp2
                                    go_ret2
                                    exact ⟨by first | rfl | (simp; done) | (simp [*]; done), by repeat (first | exact Drawn0.refl _ | apply Drawn0.step)⟩
                                · rw [if_neg c26] at H
                                  have c26b0 : decide (55296 ≤ x7_4) = false := decide_eq_false c26
                                  clear c26
                                  simp only [Option.some.injEq, Prod.mk.injEq] at H
                                  obtain ⟨rfl, rfl⟩ := H
                                  go_wp2
                                  go_ret2
                                  exact ⟨by first | rfl | (simp; done) | (simp [*]; done), by repeat (first | exact Drawn0.refl _ | apply Drawn0.step)⟩
    · rw [if_neg c3] at H
      exact absurd H (by simp)


end Go.Proofs.YtkmcbpkciakmeaaGreatDoor.PA

namespace Go.Proofs.YtkmcbpkciakmeaaGreatDoor.PA
open Go.RowKit Go.Proofs.YtkmcbpkciakmeaaGreatDoorW.PrintWords Go.Proofs.YtkmcbpkciakmeaaGreatDoorW.PrintLast Go.Proofs.YtkmcbpkciakmeaaGreatDoorW.PrintMore
attribute [local go_sem] max2_int min2_int max_two min_two max_three min_three max_four min_four   -- for this text's walks alone
set_option linter.unusedVariables false
set_option linter.unusedSimpArgs false
attribute [local go_sem high] binOp_string_gtr_lt

/-! ### wainloadref14_Valid: function 73 -/
def wainloadref14_Valid.l0 : Nat → ByteArray → Option (Bool)
  | 0, _ => none
  | k + 1, x0 => if (x0.size : Int) > 0 then ((wainloadref14_Letter.f k x0).bind fun bt215 => (if bt215.2 = 0 then (some false) else (if 0 ≤ bt215.2 then (if bt215.2 ≤ (x0.size : Int) then (wainloadref14_Valid.l0 k (x0.extract (bt215.2 : Int).toNat x0.size)) else (none)) else (none)))) else (some true)
def wainloadref14_Valid.f (k : Nat) (a0 : ByteArray) : Option (Bool) := wainloadref14_Valid.l0 k a0
theorem wainloadref14_Valid.mono_l : ∀ k, (∀ y0, LeO (wainloadref14_Valid.l0 k y0) (wainloadref14_Valid.l0 (k + 1) y0))
  | 0 => fun _ r h => by simp [wainloadref14_Valid.l0] at h
  | k + 1 => by
    have ih0 := wainloadref14_Valid.mono_l k
    · intro y0
      unfold wainloadref14_Valid.l0
      repeat' first
      | (with_reducible exact ih0 _)
      | (with_reducible exact wainloadref14_Letter.mono _ _)
      | (with_reducible exact LeO.refl _)
      | (with_reducible exact LeO.none _)
      | (with_reducible refine LeO.ite ?_ ?_)
      | (with_reducible refine LeO.bind ?_ (fun _ => ?_))
      | exact ih0 _
      | exact wainloadref14_Letter.mono _ _
      | exact LeO.none _
      | refine LeO.ite ?_ ?_
      | refine LeO.bind ?_ (fun _ => ?_)
theorem wainloadref14_Valid.mono : ∀ a0 k, LeO (wainloadref14_Valid.f k a0) (wainloadref14_Valid.f (k + 1) a0) := by
  intro a0 k
  have ih0 := wainloadref14_Valid.mono_l k
  unfold wainloadref14_Valid.f
  repeat' first
      | (with_reducible exact ih0 _)
      | (with_reducible exact wainloadref14_Letter.mono _ _)
      | (with_reducible exact LeO.refl _)
      | (with_reducible exact LeO.none _)
      | (with_reducible refine LeO.ite ?_ ?_)
      | (with_reducible refine LeO.bind ?_ (fun _ => ?_))
      | exact ih0 _
      | exact wainloadref14_Letter.mono _ _
      | exact LeO.none _
      | refine LeO.ite ?_ ?_
      | refine LeO.bind ?_ (fun _ => ?_)
set_option maxHeartbeats 8000000 in
set_option maxRecDepth 100000 in
theorem wainloadref14_Valid.calls (k : Nat) (a0 : ByteArray) (r : Bool) (w : World) (h : wainloadref14_Valid.f k a0 = some r) :
    Calls Tryz.prog 73 #[.string a0] w fun e w' => e = .returned (.bool r) ∧ Drawn0 w w' := by
  have H : (wainloadref14_Valid.l0 k a0) = some r := h
  clear h
  have H' := Aside0.mk H
  clear H
  go_enter Tryz.func73, Tryz.ntmps73
  go_wp2
  go_loopg [0] k (fun kq v0 w' => ∃ (x0_1 : ByteArray), v0 = .string x0_1 ∧ Aside0 (wainloadref14_Valid.l0 kq x0_1 = some r) ∧ Aside0 (kq ≤ k) ∧ Drawn0 w w')
  case atStart => exact ⟨(a0), (by first | rfl | (simp; done) | (simp [*]; done)), H', ⟨Nat.le_refl _⟩, by repeat (first | exact Drawn0.refl _ | apply Drawn0.step)⟩
  case round =>
    clear H'
    obtain ⟨x0_1, rfl, HA, HK1, ⟨m1, rfl⟩⟩ := hrel
    cases gk with
    | zero => exact absurd HA.out (by simp [wainloadref14_Valid.l0])
    | succ k1 =>
      have H := HA.out
      clear HA
      simp only [wainloadref14_Valid.l0] at H
      by_cases c2 : (x0_1.size : Int) > 0
      · rw [if_pos c2] at H
        have c2b0 : decide (0 < (x0_1.size : Int)) = true := decide_eq_true c2
        have c2b1 : decide (0 < x0_1.size) = true := decide_eq_true (by omega)
        clear c2
        replace H := Option.bind_eq_some_iff.mp H
        obtain ⟨⟨t215, t216⟩, A30, H⟩ := H
        replace H : (if t216 = 0 then (some false) else (if 0 ≤ t216 then (if t216 ≤ (x0_1.size : Int) then (wainloadref14_Valid.l0 k1 (x0_1.extract (t216 : Int).toNat x0_1.size)) else (none)) else (none))) = some r := H
        have A3 := Aside0.mk A30
        clear A30
        by_cases c4 : t216 = 0
        · rw [if_pos c4] at H
          have c4b0 : (t216 == 0) = true := beq_iff_eq.mpr c4
          have c4b1 : (t216 != 0) = false := bne_eq_false_iff_eq.mpr c4
          clear c4
          obtain rfl := Option.some.inj H
          go_wp2_with (first | ((with_reducible refine gate_callee (f := 109) rfl ?_); refine goesL_ (some 10) rfl rfl Tryz.func109 (by kernel_rfl) rfl #[.string x0_1] rfl (by (try simp only [List.map_toArray, List.map_cons, List.map_nil]); first | done | rfl | (simp only [List.length_drop, List.length_take]; rfl)) ?_; (with_reducible refine (wainloadref14_Letter.calls k1 x0_1 t215 t216 _ A3.out).mono ?_); rintro e w' ⟨rfl, ⟨nd, rfl⟩⟩; refine ⟨_, rfl, ?_⟩))
          go_ret
          exact ⟨by first | rfl | (simp; done) | (simp [*]; done), by repeat (first | exact Drawn0.refl _ | apply Drawn0.step)⟩
        · rw [if_neg c4] at H
          have c4b0 : (t216 == 0) = false := beq_eq_false_iff_ne.mpr c4
          have c4b1 : (t216 != 0) = true := bne_iff_ne.mpr c4
          by_cases c5 : 0 ≤ t216
          · rw [if_pos c5] at H
            have c5b0 := eq_true c5
            have c5b1 : decide (0 ≤ t216) = true := decide_eq_true c5
            clear c5
            by_cases c6 : t216 ≤ (x0_1.size : Int)
            · rw [if_pos c6] at H
              have c6b0 := eq_true c6
              have c6b1 : decide (t216 ≤ (x0_1.size : Int)) = true := decide_eq_true c6
              clear c6
              have H' := Aside0.mk H
              clear H
              go_wp2_with (first | ((with_reducible refine gate_callee (f := 109) rfl ?_); refine goesL_ (some 10) rfl rfl Tryz.func109 (by kernel_rfl) rfl #[.string x0_1] rfl (by (try simp only [List.map_toArray, List.map_cons, List.map_nil]); first | done | rfl | (simp only [List.length_drop, List.length_take]; rfl)) ?_; (with_reducible refine (wainloadref14_Letter.calls k1 x0_1 t215 t216 _ A3.out).mono ?_); rintro e w' ⟨rfl, ⟨nd, rfl⟩⟩; refine ⟨_, rfl, ?_⟩))
              go_roundg k1
              case measure => have := HK1.out; omega
              case rel => exact ⟨(x0_1.extract (t216 : Int).toNat x0_1.size), (by first | rfl | (simp; done) | (simp [*]; done)), H', ⟨by have := HK1.out; omega⟩, by repeat (first | exact Drawn0.refl _ | apply Drawn0.step)⟩
            · rw [if_neg c6] at H
              exact absurd H (by simp)
          · rw [if_neg c5] at H
            exact absurd H (by simp)
      · rw [if_neg c2] at H
        have c2b0 : decide (0 < (x0_1.size : Int)) = false := decide_eq_false c2
        have c2b1 : decide (0 < x0_1.size) = false := decide_eq_false (by omega)
        clear c2
        obtain rfl := Option.some.inj H
        go_wp2
        go_ret
        exact ⟨by first | rfl | (simp; done) | (simp [*]; done), by repeat (first | exact Drawn0.refl _ | apply Drawn0.step)⟩

end Go.Proofs.YtkmcbpkciakmeaaGreatDoor.PA

namespace Go.Proofs.YtkmcbpkciakmeaaGreatDoor.PA
open Go.RowKit Go.Proofs.YtkmcbpkciakmeaaGreatDoorW.PrintWords Go.Proofs.YtkmcbpkciakmeaaGreatDoorW.PrintLast Go.Proofs.YtkmcbpkciakmeaaGreatDoorW.PrintMore
attribute [local go_sem] max2_int min2_int max_two min_two max_three min_three max_four min_four   -- for this text's walks alone
set_option linter.unusedVariables false
set_option linter.unusedSimpArgs false
attribute [local go_sem high] binOp_string_gtr_lt

/-! ### wainloadref14_parts: function 108 -/
def wainloadref14_parts.l0 : Nat → ByteArray → List ByteArray → Int → Int → Option (List ByteArray)
  | 0, _, _, _, _ => none
  | k + 1, x0, x3, x4, x5 => if x5 ≤ (x0.size : Int) then (if x5 = (x0.size : Int) then (if 0 ≤ x4 then (if x4 ≤ x5 then (if x3.length < 8796093022208 then (wainloadref14_parts.l0 k x0 (x3 ++ [x0.extract (x4 : Int).toNat (x5 : Int).toNat]) (wrap64 (x5 + 1)) (wrap64 (x5 + 1))) else (none)) else (none)) else (none)) else (if 0 ≤ x5 then (if x5 < (x0.size : Int) then (if (bt x0 x5) = 47 then (if 0 ≤ x4 then (if x4 ≤ x5 then (if x3.length < 8796093022208 then (wainloadref14_parts.l0 k x0 (x3 ++ [x0.extract (x4 : Int).toNat (x5 : Int).toNat]) (wrap64 (x5 + 1)) (wrap64 (x5 + 1))) else (none)) else (none)) else (none)) else (wainloadref14_parts.l0 k x0 x3 x4 (wrap64 (x5 + 1)))) else (none)) else (none))) else (some x3)
def wainloadref14_parts.f (k : Nat) (a0 : ByteArray) : Option (List ByteArray) := wainloadref14_parts.l0 k a0 ([] : List ByteArray) 0 0
theorem wainloadref14_parts.mono_l : ∀ k, (∀ y0 y1 y2 y3, LeO (wainloadref14_parts.l0 k y0 y1 y2 y3) (wainloadref14_parts.l0 (k + 1) y0 y1 y2 y3))
  | 0 => fun _ _ _ _ r h => by simp [wainloadref14_parts.l0] at h
  | k + 1 => by
    have ih0 := wainloadref14_parts.mono_l k
    · intro y0 y1 y2 y3
      unfold wainloadref14_parts.l0
      repeat' first
      | (with_reducible exact ih0 _ _ _ _)
      | (with_reducible exact LeO.refl _)
      | (with_reducible exact LeO.none _)
      | (with_reducible refine LeO.ite ?_ ?_)
      | (with_reducible refine LeO.bind ?_ (fun _ => ?_))
      | exact ih0 _ _ _ _
      | exact LeO.none _
      | refine LeO.ite ?_ ?_
      | refine LeO.bind ?_ (fun _ => ?_)
theorem wainloadref14_parts.mono : ∀ a0 k, LeO (wainloadref14_parts.f k a0) (wainloadref14_parts.f (k + 1) a0) := by
  intro a0 k
  have ih0 := wainloadref14_parts.mono_l k
  unfold wainloadref14_parts.f
  repeat' first
      | (with_reducible exact ih0 _ _ _ _)
      | (with_reducible exact LeO.refl _)
      | (with_reducible exact LeO.none _)
      | (with_reducible refine LeO.ite ?_ ?_)
      | (with_reducible refine LeO.bind ?_ (fun _ => ?_))
      | exact ih0 _ _ _ _
      | exact LeO.none _
      | refine LeO.ite ?_ ?_
      | refine LeO.bind ?_ (fun _ => ?_)
set_option maxHeartbeats 8000000 in
set_option maxRecDepth 100000 in
theorem wainloadref14_parts.calls (k : Nat) (a0 : ByteArray) (r : List ByteArray) (w : World) (h : wainloadref14_parts.f k a0 = some r) :
    Calls Tryz.prog 108 #[.string a0] w fun e w' => ∃ v0_ : Value, e = .returned (v0_) ∧ Kd.R Kd.string 9 w' w.heap.size (fun _ => True) v0_ r ∧ Below w.heap.size w w' := by
  have HB := Aside0.mk (Below.refl w.heap.size w)
  have H : (wainloadref14_parts.l0 k a0 ([] : List ByteArray) 0 0) = some r := h
  clear h
  have H' := Aside0.mk H
  clear H
  go_enter Tryz.func108, Tryz.ntmps108
  go_wp2
  go_loopg [3, 4, 5] k (fun kq v3 v4 v5 w' => ∃ (x3_1 : List ByteArray) (x4_1 : Int) (x5_1 : Int), v4 = .int .i64 x4_1 ∧ v5 = .int .i64 x5_1 ∧ Aside0 (wainloadref14_parts.l0 kq a0 x3_1 x4_1 x5_1 = some r) ∧ Aside0 (kq ≤ k) ∧ Aside0 (Kd.R Kd.string 9 w' w.heap.size (fun _ => True) v3 x3_1) ∧ Aside0 (Below w.heap.size w w'))
  case atStart => exact ⟨(([] : List ByteArray)), (0), (0), (by first | rfl | (simp; done) | (simp [*]; done)), (by first | rfl | (simp; done) | (simp [*]; done)), H', ⟨Nat.le_refl _⟩, ⟨by first | exact Kd.R_nil _ _ _ _ _ | exact Kd.N_nil _ _ _ _ _ | exact Kd.V_nil _ _ _ _ _ | exact Kd.Q_nil _ _ _ _ _ | exact Kd.S_nil _ _ _ _ _⟩, ⟨by repeat (first | (with_reducible first | exact HB.out | apply below_alloc | apply pw_below_drewN | apply below_drew1) | exact HB.out)⟩⟩
  case round =>
    clear H'
    try clear c1
    obtain ⟨x3_1, x4_1, x5_1, rfl, rfl, HA, HK1, HO_3, HB⟩ := hrel
    cases gk with
    | zero => exact absurd HA.out (by simp [wainloadref14_parts.l0])
    | succ k1 =>
      have H := HA.out
      clear HA
      simp only [wainloadref14_parts.l0] at H
      by_cases c2 : x5_1 ≤ (a0.size : Int)
      · rw [if_pos c2] at H
        have c2b0 : decide (x5_1 ≤ (a0.size : Int)) = true := decide_eq_true c2
        clear c2
        by_cases c3 : x5_1 = (a0.size : Int)
        · rw [if_pos c3] at H
          have c3b0 : (x5_1 == (a0.size : Int)) = true := beq_iff_eq.mpr c3
          have c3b1 : (x5_1 != (a0.size : Int)) = false := bne_eq_false_iff_eq.mpr c3
          clear c3
          by_cases c4 : 0 ≤ x4_1
          · rw [if_pos c4] at H
            have c4b0 := eq_true c4
            have c4b1 : decide (0 ≤ x4_1) = true := decide_eq_true c4
            clear c4
            by_cases c5 : x4_1 ≤ x5_1
            · rw [if_pos c5] at H
              have c5b0 := eq_true c5
              have c5b1 : decide (x4_1 ≤ x5_1) = true := decide_eq_true c5
              clear c5
              have c6b0 := eq_true (of_decide_eq_true (by first | (with_reducible assumption) | assumption) : x5_1 ≤ (a0.size : Int))
              by_cases c7 : x3_1.length < 8796093022208
              · rw [if_pos c7] at H
                have LMc7 := Aside0.mk c7
                clear c7
                obtain ⟨y217, hy217⟩ : ∃ y_ : List ByteArray, y_ = (x3_1 ++ [a0.extract (x4_1 : Int).toNat (x5_1 : Int).toNat]) := ⟨_, rfl⟩
                replace H : (wainloadref14_parts.l0 k1 a0 y217 (wrap64 (x5_1 + 1)) (wrap64 (x5_1 + 1))) = some r := by first | (rw [hy217]; with_reducible exact H) | (have H2_ := (Option.bind_some _ _).symm.trans H; rw [hy217]; with_reducible exact H2_) | (have H2_ := (Option.bind_some _ _).symm.trans H; with_reducible exact H2_) | with_reducible exact H | (rw [hy217]; exact H) | exact H
                have Ny217 := Aside0.mk hy217
                clear hy217
                have H' := Aside0.mk H
                clear H
                go_wp2_with (first | ((with_reducible refine gate_builtin (b := .append) (xs := #[.tmp 22, .tmp 27]) rfl ?_); at_builtin; refine Kd.R_append Kd.string (w0 := w) w.heap.size rfl (.tmp 22) (.tmp 27) 75 9 (.string ⟨#[]⟩) 16 rfl Tryz.underlying75 info9 rfl (by decide) (by omega) u3 x3_1 (a0.extract (x4_1 : Int).toNat (x5_1 : Int).toNat) [.string (a0.extract (x4_1 : Int).toNat (x5_1 : Int).toNat)] (fun _ => True) (fun _ => False) rfl rfl ?aP (fun _ hk => hk.elim) ?aF ?aO ?aB ?aS ?aL ?_; (case aP => exact rfl); (case aB => exact (by repeat (first | (with_reducible first | exact HB.out | apply below_alloc | apply pw_below_drewN | apply below_drew1) | exact HB.out))); (case aF => exact (fun _ _ => trivial)); (case aO => exact (by (with_reducible repeat (first | apply Kd.R_alloc | apply Kd.R_drewN | apply Kd.R_drew)); exact HO_3.out)); (case aS => exact (below_size (by repeat (first | (with_reducible first | exact HB.out | apply below_alloc | apply pw_below_drewN | apply below_drew1) | exact HB.out)))); (case aL => have := LMc7.out; omega); intro v218 w8 ho hb hg hat; rw [← Ny217.out] at ho; have n0_ := Aside0.mk (hb); have n1_ := Aside0.mk (ho); clear HB; clear HO_3; have HB := n0_; have HO219 := n1_; clear n0_ n1_; clear ho hb hg hat))
                go_roundg k1
                case measure => have := HK1.out; omega
                case rel => exact ⟨(y217), (wrap64 (x5_1 + 1)), (wrap64 (x5_1 + 1)), (by first | rfl | (simp; done) | (simp [*]; done)), (by first | rfl | (simp; done) | (simp [*]; done)), H', ⟨by have := HK1.out; omega⟩, ⟨by (with_reducible repeat (first | apply Kd.R_alloc | apply Kd.R_drewN | apply Kd.R_drew)); exact HO219.out⟩, ⟨by repeat (first | (with_reducible first | exact HB.out | apply below_alloc | apply pw_below_drewN | apply below_drew1) | exact HB.out)⟩⟩
              · rw [if_neg c7] at H
                exact absurd H (by simp)
            · rw [if_neg c5] at H
              exact absurd H (by simp)
          · rw [if_neg c4] at H
            exact absurd H (by simp)
        · rw [if_neg c3] at H
          have c3b0 : (x5_1 == (a0.size : Int)) = false := beq_eq_false_iff_ne.mpr c3
          have c3b1 : (x5_1 != (a0.size : Int)) = true := bne_iff_ne.mpr c3
          by_cases c9 : 0 ≤ x5_1
          · rw [if_pos c9] at H
            have c9b0 : decide (0 ≤ x5_1) = true := decide_eq_true c9
            clear c9
            by_cases c10 : x5_1 < (a0.size : Int)
            · rw [if_pos c10] at H
              have c10b0 : decide (x5_1 < (a0.size : Int)) = true := decide_eq_true c10
              clear c10
              by_cases c12 : (bt a0 x5_1) = 47
              · rw [if_pos c12] at H
                have c12b0 : ((bt a0 x5_1) == 47) = true := beq_iff_eq.mpr c12
                have c12b1 : ((bt a0 x5_1) != 47) = false := bne_eq_false_iff_eq.mpr c12
                clear c12
                by_cases c13 : 0 ≤ x4_1
                · rw [if_pos c13] at H
                  have c13b0 := eq_true c13
                  have c13b1 : decide (0 ≤ x4_1) = true := decide_eq_true c13
                  clear c13
                  by_cases c14 : x4_1 ≤ x5_1
                  · rw [if_pos c14] at H
                    have c14b0 := eq_true c14
                    have c14b1 : decide (x4_1 ≤ x5_1) = true := decide_eq_true c14
                    clear c14
                    have c15b0 := eq_true (of_decide_eq_true (by first | (with_reducible assumption) | assumption) : x5_1 ≤ (a0.size : Int))
                    by_cases c16 : x3_1.length < 8796093022208
                    · rw [if_pos c16] at H
                      have LMc16 := Aside0.mk c16
                      clear c16
                      obtain ⟨y220, hy220⟩ : ∃ y_ : List ByteArray, y_ = (x3_1 ++ [a0.extract (x4_1 : Int).toNat (x5_1 : Int).toNat]) := ⟨_, rfl⟩
                      replace H : (wainloadref14_parts.l0 k1 a0 y220 (wrap64 (x5_1 + 1)) (wrap64 (x5_1 + 1))) = some r := by first | (rw [hy220]; with_reducible exact H) | (have H2_ := (Option.bind_some _ _).symm.trans H; rw [hy220]; with_reducible exact H2_) | (have H2_ := (Option.bind_some _ _).symm.trans H; with_reducible exact H2_) | with_reducible exact H | (rw [hy220]; exact H) | exact H
                      have Ny220 := Aside0.mk hy220
                      clear hy220
                      have H' := Aside0.mk H
                      clear H
                      have p11 : 0 ≤ (x5_1 : Int) := of_decide_eq_true (by first | (with_reducible assumption) | assumption)
                      have q11 : x5_1 < (a0.size : Int) := of_decide_eq_true (by first | (with_reducible assumption) | assumption)
                      have hx11 := bt_at a0 x5_1
                      replace p11 := eq_true p11
                      replace q11 := eq_true q11
                      go_wp2_with (first | ((with_reducible refine gate_builtin (b := .append) (xs := #[.tmp 22, .tmp 27]) rfl ?_); at_builtin; refine Kd.R_append Kd.string (w0 := w) w.heap.size rfl (.tmp 22) (.tmp 27) 75 9 (.string ⟨#[]⟩) 16 rfl Tryz.underlying75 info9 rfl (by decide) (by omega) u3 x3_1 (a0.extract (x4_1 : Int).toNat (x5_1 : Int).toNat) [.string (a0.extract (x4_1 : Int).toNat (x5_1 : Int).toNat)] (fun _ => True) (fun _ => False) rfl rfl ?aP (fun _ hk => hk.elim) ?aF ?aO ?aB ?aS ?aL ?_; (case aP => exact rfl); (case aB => exact (by repeat (first | (with_reducible first | exact HB.out | apply below_alloc | apply pw_below_drewN | apply below_drew1) | exact HB.out))); (case aF => exact (fun _ _ => trivial)); (case aO => exact (by (with_reducible repeat (first | apply Kd.R_alloc | apply Kd.R_drewN | apply Kd.R_drew)); exact HO_3.out)); (case aS => exact (below_size (by repeat (first | (with_reducible first | exact HB.out | apply below_alloc | apply pw_below_drewN | apply below_drew1) | exact HB.out)))); (case aL => have := LMc16.out; omega); intro v221 w17 ho hb hg hat; rw [← Ny220.out] at ho; have n0_ := Aside0.mk (hb); have n1_ := Aside0.mk (ho); clear HB; clear HO_3; have HB := n0_; have HO222 := n1_; clear n0_ n1_; clear ho hb hg hat))
                      go_roundg k1
                      case measure => have := HK1.out; omega
                      case rel => exact ⟨(y220), (wrap64 (x5_1 + 1)), (wrap64 (x5_1 + 1)), (by first | rfl | (simp; done) | (simp [*]; done)), (by first | rfl | (simp; done) | (simp [*]; done)), H', ⟨by have := HK1.out; omega⟩, ⟨by (with_reducible repeat (first | apply Kd.R_alloc | apply Kd.R_drewN | apply Kd.R_drew)); exact HO222.out⟩, ⟨by repeat (first | (with_reducible first | exact HB.out | apply below_alloc | apply pw_below_drewN | apply below_drew1) | exact HB.out)⟩⟩
                    · rw [if_neg c16] at H
                      exact absurd H (by simp)
                  · rw [if_neg c14] at H
                    exact absurd H (by simp)
                · rw [if_neg c13] at H
                  exact absurd H (by simp)
              · rw [if_neg c12] at H
                have c12b0 : ((bt a0 x5_1) == 47) = false := beq_eq_false_iff_ne.mpr c12
                have c12b1 : ((bt a0 x5_1) != 47) = true := bne_iff_ne.mpr c12
                have H' := Aside0.mk H
                clear H
                have p11 : 0 ≤ (x5_1 : Int) := of_decide_eq_true (by first | (with_reducible assumption) | assumption)
                have q11 : x5_1 < (a0.size : Int) := of_decide_eq_true (by first | (with_reducible assumption) | assumption)
                have hx11 := bt_at a0 x5_1
                replace p11 := eq_true p11
                replace q11 := eq_true q11
                go_wp2
                go_roundg k1
                case measure => have := HK1.out; omega
                case rel => exact ⟨(x3_1), (x4_1), (wrap64 (x5_1 + 1)), (by first | rfl | (simp; done) | (simp [*]; done)), (by first | rfl | (simp; done) | (simp [*]; done)), H', ⟨by have := HK1.out; omega⟩, ⟨by (with_reducible repeat (first | apply Kd.R_alloc | apply Kd.R_drewN | apply Kd.R_drew)); exact HO_3.out⟩, ⟨by repeat (first | (with_reducible first | exact HB.out | apply below_alloc | apply pw_below_drewN | apply below_drew1) | exact HB.out)⟩⟩
            · rw [if_neg c10] at H
              exact absurd H (by simp)
          · rw [if_neg c9] at H
            exact absurd H (by simp)
      · rw [if_neg c2] at H
        have c2b0 : decide (x5_1 ≤ (a0.size : Int)) = false := decide_eq_false c2
        clear c2
        obtain rfl := Option.some.inj H
        go_wp2
        go_ret
        exact ⟨_, by first | rfl | (simp [errW_none, errW_some] <;> rfl) | (simp [*, errW_none, errW_some] <;> rfl), by (with_reducible repeat (first | apply Kd.R_alloc | apply Kd.R_drewN | apply Kd.R_drew)); exact HO_3.out, by repeat (first | (with_reducible first | exact HB.out | apply below_alloc | apply pw_below_drewN | apply below_drew1) | exact HB.out)⟩


end Go.Proofs.YtkmcbpkciakmeaaGreatDoor.PA

namespace Go.Proofs.YtkmcbpkciakmeaaGreatDoor.PA
open Go.RowKit Go.Proofs.YtkmcbpkciakmeaaGreatDoorW.PrintWords Go.Proofs.YtkmcbpkciakmeaaGreatDoorW.PrintLast Go.Proofs.YtkmcbpkciakmeaaGreatDoorW.PrintMore
attribute [local go_sem] max2_int min2_int max_two min_two max_three min_three max_four min_four   -- for this text's walks alone
set_option linter.unusedVariables false
set_option linter.unusedSimpArgs false
attribute [local go_sem high] binOp_string_gtr_lt

/-! ### wainloadref14_Clean: function 72 -/
mutual
def wainloadref14_Clean.j0 : Nat → ByteArray → Bool → Option (ByteArray × Int)
  | 0, _, _ => none
  | k + 1, x0, x20 => if x20 = true then (some ((⟨#[]⟩ : ByteArray), 140)) else (wainloadref14_Clean.l0 k x0 0)
def wainloadref14_Clean.l0 : Nat → ByteArray → Int → Option (ByteArray × Int)
  | 0, _, _ => none
  | k + 1, x0, x4 => if x4 < (x0.size : Int) then (if 0 ≤ x4 then (if (bt x0 x4) = 0 then (some ((⟨#[]⟩ : ByteArray), 140)) else (wainloadref14_Clean.l0 k x0 (wrap64 (x4 + 1)))) else (none)) else ((wainloadref14_parts.f k x0).bind fun t224 => (wainloadref14_Clean.l1 k (⟨#[]⟩ : ByteArray) t224 0))
def wainloadref14_Clean.l1 : Nat → ByteArray → List ByteArray → Int → Option (ByteArray × Int)
  | 0, _, _, _ => none
  | k + 1, x5, x6, x7 => if x7 < (x6.length : Int) then (if 0 ≤ x7 then (if (rdOf ByteArray.empty x6 x7).toList = ([46, 46] : List UInt8) then (some ((⟨#[]⟩ : ByteArray), 140)) else (if (rdOf ByteArray.empty x6 x7).toList = ([] : List UInt8) then (wainloadref14_Clean.j3 k x5 x6 x7 true) else (wainloadref14_Clean.j3 k x5 x6 x7 ((rdOf ByteArray.empty x6 x7).toList == ([46] : List UInt8))))) else (none)) else (if x5.toList = ([] : List UInt8) then (some ((⟨#[]⟩ : ByteArray), 140)) else (if (x5.size : Int) > 200 then (some ((⟨#[]⟩ : ByteArray), 140)) else (some (x5, 0))))
def wainloadref14_Clean.j3 : Nat → ByteArray → List ByteArray → Int → Bool → Option (ByteArray × Int)
  | 0, _, _, _, _ => none
  | k + 1, x5, x6, x7, x55 => if x55 = true then (wainloadref14_Clean.l1 k x5 x6 (wrap64 (x7 + 1))) else (if x5.toList = ([] : List UInt8) then (if 0 ≤ x7 then (if x7 < (x6.length : Int) then (if x5.size + (rdOf ByteArray.empty x6 x7).size ≤ 9223372036854775807 then (wainloadref14_Clean.l1 k (x5 ++ (rdOf ByteArray.empty x6 x7)) x6 (wrap64 (x7 + 1))) else (none)) else (none)) else (none)) else (if x5.size + 1 ≤ 9223372036854775807 then (if 0 ≤ x7 then (if x7 < (x6.length : Int) then (if (x5 ++ (⟨#[47]⟩ : ByteArray)).size + (rdOf ByteArray.empty x6 x7).size ≤ 9223372036854775807 then (wainloadref14_Clean.l1 k ((x5 ++ (⟨#[47]⟩ : ByteArray)) ++ (rdOf ByteArray.empty x6 x7)) x6 (wrap64 (x7 + 1))) else (none)) else (none)) else (none)) else (none)))
end
def wainloadref14_Clean.f (k : Nat) (a0 : ByteArray) : Option (ByteArray × Int) := (wainloadref14_Valid.f k a0).bind fun t223 => (if t223 = true then (if (a0.size : Int) > 0 then (if 0 < (a0.size : Int) then (wainloadref14_Clean.j0 k a0 ((bt a0 0) == 47)) else (none)) else (wainloadref14_Clean.j0 k a0 false)) else (wainloadref14_Clean.j0 k a0 true))
theorem wainloadref14_Clean.mono_l : ∀ k, (∀ y0 y1, LeO (wainloadref14_Clean.j0 k y0 y1) (wainloadref14_Clean.j0 (k + 1) y0 y1)) ∧ (∀ y0 y1, LeO (wainloadref14_Clean.l0 k y0 y1) (wainloadref14_Clean.l0 (k + 1) y0 y1)) ∧ (∀ y0 y1 y2, LeO (wainloadref14_Clean.l1 k y0 y1 y2) (wainloadref14_Clean.l1 (k + 1) y0 y1 y2)) ∧ (∀ y0 y1 y2 y3, LeO (wainloadref14_Clean.j3 k y0 y1 y2 y3) (wainloadref14_Clean.j3 (k + 1) y0 y1 y2 y3))
  | 0 => ⟨fun _ _ r h => by simp [wainloadref14_Clean.j0] at h, fun _ _ r h => by simp [wainloadref14_Clean.l0] at h, fun _ _ _ r h => by simp [wainloadref14_Clean.l1] at h, fun _ _ _ _ r h => by simp [wainloadref14_Clean.j3] at h⟩
  | k + 1 => by
    obtain ⟨ih0, ih1, ih2, ih3⟩ := wainloadref14_Clean.mono_l k
    refine ⟨?_, ?_, ?_, ?_⟩
    · intro y0 y1
      unfold wainloadref14_Clean.j0
      repeat' first
      | (with_reducible exact ih0 _ _)
      | (with_reducible exact ih1 _ _)
      | (with_reducible exact ih2 _ _ _)
      | (with_reducible exact ih3 _ _ _ _)
      | (with_reducible exact wainloadref14_Valid.mono _ _)
      | (with_reducible exact wainloadref14_parts.mono _ _)
      | (with_reducible exact LeO.refl _)
      | (with_reducible exact LeO.none _)
      | (with_reducible refine LeO.ite ?_ ?_)
      | (with_reducible refine LeO.bind ?_ (fun _ => ?_))
      | exact ih0 _ _
      | exact ih1 _ _
      | exact ih2 _ _ _
      | exact ih3 _ _ _ _
      | exact wainloadref14_Valid.mono _ _
      | exact wainloadref14_parts.mono _ _
      | exact LeO.none _
      | refine LeO.ite ?_ ?_
      | refine LeO.bind ?_ (fun _ => ?_)
    · intro y0 y1
      unfold wainloadref14_Clean.l0
      repeat' first
      | (with_reducible exact ih0 _ _)
      | (with_reducible exact ih1 _ _)
      | (with_reducible exact ih2 _ _ _)
      | (with_reducible exact ih3 _ _ _ _)
      | (with_reducible exact wainloadref14_Valid.mono _ _)
      | (with_reducible exact wainloadref14_parts.mono _ _)
      | (with_reducible exact LeO.refl _)
      | (with_reducible exact LeO.none _)
      | (with_reducible refine LeO.ite ?_ ?_)
      | (with_reducible refine LeO.bind ?_ (fun _ => ?_))
      | exact ih0 _ _
      | exact ih1 _ _
      | exact ih2 _ _ _
      | exact ih3 _ _ _ _
      | exact wainloadref14_Valid.mono _ _
      | exact wainloadref14_parts.mono _ _
      | exact LeO.none _
      | refine LeO.ite ?_ ?_
      | refine LeO.bind ?_ (fun _ => ?_)
    · intro y0 y1 y2
      unfold wainloadref14_Clean.l1
      repeat' first
      | (with_reducible exact ih0 _ _)
      | (with_reducible exact ih1 _ _)
      | (with_reducible exact ih2 _ _ _)
      | (with_reducible exact ih3 _ _ _ _)
      | (with_reducible exact wainloadref14_Valid.mono _ _)
      | (with_reducible exact wainloadref14_parts.mono _ _)
      | (with_reducible exact LeO.refl _)
      | (with_reducible exact LeO.none _)
      | (with_reducible refine LeO.ite ?_ ?_)
      | (with_reducible refine LeO.bind ?_ (fun _ => ?_))
      | exact ih0 _ _
      | exact ih1 _ _
      | exact ih2 _ _ _
      | exact ih3 _ _ _ _
      | exact wainloadref14_Valid.mono _ _
      | exact wainloadref14_parts.mono _ _
      | exact LeO.none _
      | refine LeO.ite ?_ ?_
      | refine LeO.bind ?_ (fun _ => ?_)
    · intro y0 y1 y2 y3
      unfold wainloadref14_Clean.j3
      repeat' first
      | (with_reducible exact ih0 _ _)
      | (with_reducible exact ih1 _ _)
      | (with_reducible exact ih2 _ _ _)
      | (with_reducible exact ih3 _ _ _ _)
      | (with_reducible exact wainloadref14_Valid.mono _ _)
      | (with_reducible exact wainloadref14_parts.mono _ _)
      | (with_reducible exact LeO.refl _)
      | (with_reducible exact LeO.none _)
      | (with_reducible refine LeO.ite ?_ ?_)
      | (with_reducible refine LeO.bind ?_ (fun _ => ?_))
      | exact ih0 _ _
      | exact ih1 _ _
      | exact ih2 _ _ _
      | exact ih3 _ _ _ _
      | exact wainloadref14_Valid.mono _ _
      | exact wainloadref14_parts.mono _ _
      | exact LeO.none _
      | refine LeO.ite ?_ ?_
      | refine LeO.bind ?_ (fun _ => ?_)
theorem wainloadref14_Clean.mono : ∀ a0 k, LeO (wainloadref14_Clean.f k a0) (wainloadref14_Clean.f (k + 1) a0) := by
  intro a0 k
  obtain ⟨ih0, ih1, ih2, ih3⟩ := wainloadref14_Clean.mono_l k
  unfold wainloadref14_Clean.f
  repeat' first
      | (with_reducible exact ih0 _ _)
      | (with_reducible exact ih1 _ _)
      | (with_reducible exact ih2 _ _ _)
      | (with_reducible exact ih3 _ _ _ _)
      | (with_reducible exact wainloadref14_Valid.mono _ _)
      | (with_reducible exact wainloadref14_parts.mono _ _)
      | (with_reducible exact LeO.refl _)
      | (with_reducible exact LeO.none _)
      | (with_reducible refine LeO.ite ?_ ?_)
      | (with_reducible refine LeO.bind ?_ (fun _ => ?_))
      | exact ih0 _ _
      | exact ih1 _ _
      | exact ih2 _ _ _
      | exact ih3 _ _ _ _
      | exact wainloadref14_Valid.mono _ _
      | exact wainloadref14_parts.mono _ _
      | exact LeO.none _
      | refine LeO.ite ?_ ?_
      | refine LeO.bind ?_ (fun _ => ?_)
set_option maxHeartbeats 8000000 in
set_option maxRecDepth 100000 in
theorem wainloadref14_Clean.calls (k : Nat) (a0 : ByteArray) (r1 : ByteArray) (r2 : Int) (w : World) (h : wainloadref14_Clean.f k a0 = some (r1, r2)) :
    Calls Tryz.prog 72 #[.string a0] w fun e w' => e = .returned (.tuple #[.string r1, .int .i64 r2]) ∧ Below w.heap.size w w' := by
  have HB := Aside0.mk (Below.refl w.heap.size w)
  have H : ((wainloadref14_Valid.f k a0).bind fun t223 => (if t223 = true then (if (a0.size : Int) > 0 then (if 0 < (a0.size : Int) then (wainloadref14_Clean.j0 k a0 ((bt a0 0) == 47)) else (none)) else (wainloadref14_Clean.j0 k a0 false)) else (wainloadref14_Clean.j0 k a0 true))) = some (r1, r2) := h
  clear h
  have HC2 := Aside0.mk H
  clear H
  go_enter Tryz.func72, Tryz.ntmps72
  go_upto_region 1 with (fail)
  go_cut [20] (fun v20 wc => ∃ (kq : Nat) (x20_1 : Bool), v20 = .bool x20_1 ∧ Aside0 (wainloadref14_Clean.j0 kq a0 x20_1 = some (r1, r2)) ∧ Aside0 (kq ≤ k) ∧ Aside0 (Below w.heap.size w wc))
  case first =>
    have H := HC2.out
    clear HC2
    replace H := Option.bind_eq_some_iff.mp H
    obtain ⟨t223, A30, H⟩ := H
    replace H : (if t223 = true then (if (a0.size : Int) > 0 then (if 0 < (a0.size : Int) then (wainloadref14_Clean.j0 k a0 ((bt a0 0) == 47)) else (none)) else (wainloadref14_Clean.j0 k a0 false)) else (wainloadref14_Clean.j0 k a0 true)) = some (r1, r2) := H
    have A3 := Aside0.mk A30
    clear A30
    by_cases c4 : t223 = true
    · subst c4
      have H1 : (if (a0.size : Int) > 0 then (if 0 < (a0.size : Int) then (wainloadref14_Clean.j0 k a0 ((bt a0 0) == 47)) else (none)) else (wainloadref14_Clean.j0 k a0 false)) = some (r1, r2) := by rw [if_pos rfl] at H; exact H
      clear H
      have H := H1
      clear H1
      by_cases c5 : (a0.size : Int) > 0
      · rw [if_pos c5] at H
        have c5b0 : decide (0 < (a0.size : Int)) = true := decide_eq_true c5
        have c5b1 : decide (0 < a0.size) = true := decide_eq_true (by omega)
        clear c5
        (first | rw [c5b0] | (simp only [i64_w, i32_w]; rw [c5b0]) | skip)
        by_cases c6 : 0 < (a0.size : Int)
        · rw [if_pos c6] at H
          have c6b0 : decide (0 < (a0.size : Int)) = true := decide_eq_true c6
          have c6b1 : decide (0 < a0.size) = true := decide_eq_true (by omega)
          clear c6
          have H' := Aside0.mk H
          clear H
          go_wp2_with (first | ((with_reducible refine gate_callee (f := 73) rfl ?_); refine goesL_ (some 9) rfl rfl Tryz.func73 (by kernel_rfl) rfl #[.string a0] rfl (by (try simp only [List.map_toArray, List.map_cons, List.map_nil]); first | done | rfl | (simp only [List.length_drop, List.length_take]; rfl)) ?_; (with_reducible refine (wainloadref14_Valid.calls k a0 true _ A3.out).mono ?_); rintro e w' ⟨rfl, ⟨nd, rfl⟩⟩; refine ⟨_, rfl, ?_⟩; have p7 : 0 ≤ (0 : Int) := (by omega); have q7 : 0 < a0.size := (by have : (0 : Int) < (a0.size : Int) := of_decide_eq_true (by first | (with_reducible assumption) | assumption); omega); have hx7 : ∀ h : 0 < a0.size, ((a0[0]'h).toNat : Int) = bt a0 0 := bt_at a0 0; clear p7; have qi7 : (0 < (a0.size : Int)) = True := eq_true (of_decide_eq_true (by first | (with_reducible assumption) | assumption)); replace q7 := eq_true q7))
          go_meet
          case rel => exact ⟨_, (((bt a0 0) == 47)), (by first | rfl | (simp; done) | (simp [*]; done)), H', ⟨by first | omega | exact Nat.le_refl _⟩, ⟨by repeat (first | (with_reducible first | exact HB.out | apply below_alloc | apply pw_below_drewN | apply below_drew1) | exact HB.out)⟩⟩
        · rw [if_neg c6] at H
          exact absurd H (by simp)
      · rw [if_neg c5] at H
        have c5b0 : decide (0 < (a0.size : Int)) = false := decide_eq_false c5
        have c5b1 : decide (0 < a0.size) = false := decide_eq_false (by omega)
        clear c5
        (first | rw [c5b0] | (simp only [i64_w, i32_w]; rw [c5b0]) | skip)
        have H' := Aside0.mk H
        clear H
        go_wp2_with (first | ((with_reducible refine gate_callee (f := 73) rfl ?_); refine goesL_ (some 9) rfl rfl Tryz.func73 (by kernel_rfl) rfl #[.string a0] rfl (by (try simp only [List.map_toArray, List.map_cons, List.map_nil]); first | done | rfl | (simp only [List.length_drop, List.length_take]; rfl)) ?_; (with_reducible refine (wainloadref14_Valid.calls k a0 true _ A3.out).mono ?_); rintro e w' ⟨rfl, ⟨nd, rfl⟩⟩; refine ⟨_, rfl, ?_⟩))
        go_meet
        case rel => exact ⟨_, (false), (by first | rfl | (simp; done) | (simp [*]; done)), H', ⟨by first | omega | exact Nat.le_refl _⟩, ⟨by repeat (first | (with_reducible first | exact HB.out | apply below_alloc | apply pw_below_drewN | apply below_drew1) | exact HB.out)⟩⟩
    · replace c4 := Bool.eq_false_iff.mpr c4
      subst c4
      have H1 : (wainloadref14_Clean.j0 k a0 true) = some (r1, r2) := by rw [if_neg (show ¬ (false = true) by decide)] at H; exact H
      clear H
      have H := H1
      clear H1
      have H' := Aside0.mk H
      clear H
      go_wp2_with (first | ((with_reducible refine gate_callee (f := 73) rfl ?_); refine goesL_ (some 9) rfl rfl Tryz.func73 (by kernel_rfl) rfl #[.string a0] rfl (by (try simp only [List.map_toArray, List.map_cons, List.map_nil]); first | done | rfl | (simp only [List.length_drop, List.length_take]; rfl)) ?_; (with_reducible refine (wainloadref14_Valid.calls k a0 false _ A3.out).mono ?_); rintro e w' ⟨rfl, ⟨nd, rfl⟩⟩; refine ⟨_, rfl, ?_⟩))
      go_meet
      case rel => exact ⟨_, (true), (by first | rfl | (simp; done) | (simp [*]; done)), H', ⟨by first | omega | exact Nat.le_refl _⟩, ⟨by repeat (first | (with_reducible first | exact HB.out | apply below_alloc | apply pw_below_drewN | apply below_drew1) | exact HB.out)⟩⟩
  case rest =>
    clear HC2
    try clear p2
    try clear c4
    try clear c5
    try clear c5b0
    try clear c5b1
    try clear c6
    try clear c6b0
    try clear c6b1
    try clear c7
    try clear p7
    try clear q7
    try clear hx7
    try clear qi7
    try clear p7
    try clear q7
    obtain ⟨kq, x20_1, rfl, HA, HJ1, HB⟩ := hcut
    cases kq with
    | zero => exact absurd HA.out (by simp [wainloadref14_Clean.j0])
    | succ kj1 =>
      have H := HA.out
      clear HA
      simp only [wainloadref14_Clean.j0] at H
      by_cases c8 : x20_1 = true
      · subst c8
        have H1 : (some ((⟨#[]⟩ : ByteArray), 140)) = some (r1, r2) := by rw [if_pos rfl] at H; exact H
        clear H
        have H := H1
        clear H1
        simp only [Option.some.injEq, Prod.mk.injEq] at H
        obtain ⟨rfl, rfl⟩ := H
        go_wp2
        go_ret2
        exact ⟨by first | rfl | (simp [errW_none, errW_some] <;> rfl) | (simp [*, errW_none, errW_some] <;> rfl), by repeat (first | (with_reducible first | exact HB.out | apply below_alloc | apply pw_below_drewN | apply below_drew1) | exact HB.out)⟩
      · replace c8 := Bool.eq_false_iff.mpr c8
        subst c8
        have H1 : (wainloadref14_Clean.l0 kj1 a0 0) = some (r1, r2) := by rw [if_neg (show ¬ (false = true) by decide)] at H; exact H
        clear H
        have H := H1
        clear H1
        have H' := Aside0.mk H
        clear H
        go_wp2
        go_loopg [4] kj1 (fun kq v4 w' => ∃ (x4_2 : Int), v4 = .int .i64 x4_2 ∧ Aside0 (wainloadref14_Clean.l0 kq a0 x4_2 = some (r1, r2)) ∧ Aside0 (kq ≤ kj1) ∧ Aside0 (Below w.heap.size w w'))
        case atStart => exact ⟨(0), (by first | rfl | (simp; done) | (simp [*]; done)), H', ⟨Nat.le_refl _⟩, ⟨by repeat (first | (with_reducible first | exact HB.out | apply below_alloc | apply pw_below_drewN | apply below_drew1) | exact HB.out)⟩⟩
        case round =>
          clear H'
          try clear p2
          try clear c4
          try clear c5
          try clear c5b0
          try clear c5b1
          try clear c6
          try clear c6b0
          try clear c6b1
          try clear c7
          try clear p7
          try clear q7
          try clear hx7
          try clear qi7
          try clear c8
          try clear p2
          try clear p7
          try clear q7
          obtain ⟨x4_2, rfl, HA, HK2, HB⟩ := hrel
          cases gk with
          | zero => exact absurd HA.out (by simp [wainloadref14_Clean.l0])
          | succ k2 =>
            have H := HA.out
            clear HA
            simp only [wainloadref14_Clean.l0] at H
            by_cases c9 : x4_2 < (a0.size : Int)
            · rw [if_pos c9] at H
              have c9b0 : decide (x4_2 < (a0.size : Int)) = true := decide_eq_true c9
              clear c9
              by_cases c10 : 0 ≤ x4_2
              · rw [if_pos c10] at H
                have c10b0 : decide (0 ≤ x4_2) = true := decide_eq_true c10
                clear c10
                by_cases c12 : (bt a0 x4_2) = 0
                · rw [if_pos c12] at H
                  have c12b0 : ((bt a0 x4_2) == 0) = true := beq_iff_eq.mpr c12
                  have c12b1 : ((bt a0 x4_2) != 0) = false := bne_eq_false_iff_eq.mpr c12
                  clear c12
                  simp only [Option.some.injEq, Prod.mk.injEq] at H
                  obtain ⟨rfl, rfl⟩ := H
                  have p11 : 0 ≤ (x4_2 : Int) := of_decide_eq_true (by first | (with_reducible assumption) | assumption)
                  have q11 : x4_2 < (a0.size : Int) := of_decide_eq_true (by first | (with_reducible assumption) | assumption)
                  have hx11 := bt_at a0 x4_2
                  replace p11 := eq_true p11
                  replace q11 := eq_true q11
                  go_wp2
                  go_ret2
                  exact ⟨by first | rfl | (simp [errW_none, errW_some] <;> rfl) | (simp [*, errW_none, errW_some] <;> rfl), by repeat (first | (with_reducible first | exact HB.out | apply below_alloc | apply pw_below_drewN | apply below_drew1) | exact HB.out)⟩
                · rw [if_neg c12] at H
                  have c12b0 : ((bt a0 x4_2) == 0) = false := beq_eq_false_iff_ne.mpr c12
                  have c12b1 : ((bt a0 x4_2) != 0) = true := bne_iff_ne.mpr c12
                  have H' := Aside0.mk H
                  clear H
                  have p11 : 0 ≤ (x4_2 : Int) := of_decide_eq_true (by first | (with_reducible assumption) | assumption)
                  have q11 : x4_2 < (a0.size : Int) := of_decide_eq_true (by first | (with_reducible assumption) | assumption)
                  have hx11 := bt_at a0 x4_2
                  replace p11 := eq_true p11
                  replace q11 := eq_true q11
                  go_wp2
                  go_roundg k2
                  case measure => have := HJ1.out; have := HK2.out; omega
                  case rel => exact ⟨(wrap64 (x4_2 + 1)), (by first | rfl | (simp; done) | (simp [*]; done)), H', ⟨by have := HJ1.out; have := HK2.out; omega⟩, ⟨by repeat (first | (with_reducible first | exact HB.out | apply below_alloc | apply pw_below_drewN | apply below_drew1) | exact HB.out)⟩⟩
              · rw [if_neg c10] at H
                exact absurd H (by simp)
            · rw [if_neg c9] at H
              have c9b0 : decide (x4_2 < (a0.size : Int)) = false := decide_eq_false c9
              clear c9
              replace H := Option.bind_eq_some_iff.mp H
              obtain ⟨t224, A130, H⟩ := H
              replace H : (wainloadref14_Clean.l1 k2 (⟨#[]⟩ : ByteArray) t224 0) = some (r1, r2) := H
              have A13 := Aside0.mk A130
              clear A130
              have H' := Aside0.mk H
              clear H
              go_wp2_with (first | ((with_reducible refine gate_callee (f := 108) rfl ?_); refine goesL_ (some 32) rfl rfl Tryz.func108 (by kernel_rfl) rfl #[.string a0] rfl (by (try simp only [List.map_toArray, List.map_cons, List.map_nil]); first | done | rfl | (simp only [List.length_drop, List.length_take]; rfl)) ?_; (with_reducible refine (wainloadref14_parts.calls k2 a0 t224 _ A13.out).mono ?_); rintro e w14 ⟨v225, rfl, ho0, hb⟩; refine ⟨_, rfl, ?_⟩; have n0_ := Aside0.mk (Kd.R_lower ho0 (below_size (by repeat (first | (with_reducible first | exact HB.out | apply below_alloc | apply pw_below_drewN | apply below_drew1) | exact HB.out)))); have n1_ := Aside0.mk (below_step (by repeat (first | (with_reducible first | exact HB.out | apply below_alloc | apply pw_below_drewN | apply below_drew1) | exact HB.out)) hb); clear HB; have HO226 := n0_; have HB := n1_; clear n0_ n1_; (try clear hb); (try clear hb2); (try clear hk); (try clear hi); (try clear ho0)))
              go_loopg [5, 7] k2 (fun kq v5 v7 w' => ∃ (x5_3 : ByteArray) (x7_3 : Int), v5 = .string x5_3 ∧ v7 = .int .i64 x7_3 ∧ Aside0 (wainloadref14_Clean.l1 kq x5_3 t224 x7_3 = some (r1, r2)) ∧ Aside0 (kq ≤ k2) ∧ Aside0 (Kd.R Kd.string 9 w' w.heap.size (fun _ => True) v225 t224) ∧ Aside0 (Below w.heap.size w w'))
              case atStart => exact ⟨((⟨#[]⟩ : ByteArray)), (0), (by first | rfl | (simp; done) | (simp [*]; done)), (by first | rfl | (simp; done) | (simp [*]; done)), H', ⟨Nat.le_refl _⟩, ⟨by (with_reducible repeat (first | apply Kd.R_alloc | apply Kd.R_drewN | apply Kd.R_drew)); exact HO226.out⟩, ⟨by repeat (first | (with_reducible first | exact HB.out | apply below_alloc | apply pw_below_drewN | apply below_drew1) | exact HB.out)⟩⟩
              case round =>
                clear H'
                try clear c1
                try clear p1
                try clear q1
                try clear hx1
                try clear p2
                try clear c4
                try clear c5
                try clear c5b0
                try clear c5b1
                try clear c6
                try clear c6b0
                try clear c6b1
                try clear p6
                try clear c7
                try clear p7
                try clear q7
                try clear hx7
                try clear qi7
                try clear c8
                try clear c9
                try clear c9b0
                try clear c10
                try clear c10b0
                try clear p11
                try clear q11
                try clear hx11
                try clear c12
                try clear c12b0
                try clear c12b1
                try clear p11
                try clear p2
                try clear p7
                try clear q11
                try clear q7
                obtain ⟨x5_3, x7_3, rfl, rfl, HA, HK3, HO_6, HB⟩ := hrel
                cases gk with
                | zero => exact absurd HA.out (by simp [wainloadref14_Clean.l1])
                | succ k3 =>
                  have H := HA.out
                  clear HA
                  simp only [wainloadref14_Clean.l1] at H
                  by_cases c15 : x7_3 < (t224.length : Int)
                  · rw [if_pos c15] at H
                    have c15b0 : decide (x7_3 < (t224.length : Int)) = true := decide_eq_true c15
                    clear c15
                    by_cases c16 : 0 ≤ x7_3
                    · rw [if_pos c16] at H
                      have c16b0 : decide (0 ≤ x7_3) = true := decide_eq_true c16
                      clear c16
                      by_cases c17 : (rdOf ByteArray.empty t224 x7_3).toList = ([46, 46] : List UInt8)
                      · rw [if_pos c17] at H
                        have c17b0 : ((rdOf ByteArray.empty t224 x7_3).toList == ([46, 46] : List UInt8)) = true := beq_iff_eq.mpr c17
                        have c17b1 : ((rdOf ByteArray.empty t224 x7_3).toList != ([46, 46] : List UInt8)) = false := bne_eq_false_iff_eq.mpr c17
                        clear c17
                        simp only [Option.some.injEq, Prod.mk.injEq] at H
                        obtain ⟨rfl, rfl⟩ := H
                        obtain ⟨Ao18, co18, eo18⟩ := Kd.R_slice HO_6.out
                        subst eo18
                        have p227 : 0 ≤ (x7_3 : Int) := of_decide_eq_true (by first | (with_reducible assumption) | assumption)
                        have q227 : x7_3 < (t224.length : Int) := of_decide_eq_true (by first | (with_reducible assumption) | assumption)
                        obtain ⟨ad227, e227, hx227_0⟩ := Kd.at_string (Kd.R_reads' HO_6.out).2.2 x7_3 p227 q227
                        cases e227
                        replace p227 := eq_true p227
                        replace q227 := eq_true q227
                        go_wp2
                        go_ret2
                        exact ⟨by first | rfl | (simp [errW_none, errW_some] <;> rfl) | (simp [*, errW_none, errW_some] <;> rfl), by repeat (first | (with_reducible first | exact HB.out | apply below_alloc | apply pw_below_drewN | apply below_drew1) | exact HB.out)⟩
                      · rw [if_neg c17] at H
                        have c17b0 : ((rdOf ByteArray.empty t224 x7_3).toList == ([46, 46] : List UInt8)) = false := beq_eq_false_iff_ne.mpr c17
                        have c17b1 : ((rdOf ByteArray.empty t224 x7_3).toList != ([46, 46] : List UInt8)) = true := bne_iff_ne.mpr c17
                        have HC19 := Aside0.mk H
                        clear H
                        obtain ⟨Ao20, co20, eo20⟩ := Kd.R_slice HO_6.out
                        subst eo20
                        have p227 : 0 ≤ (x7_3 : Int) := of_decide_eq_true (by first | (with_reducible assumption) | assumption)
                        have q227 : x7_3 < (t224.length : Int) := of_decide_eq_true (by first | (with_reducible assumption) | assumption)
                        obtain ⟨ad227, e227, hx227_0⟩ := Kd.at_string (Kd.R_reads' HO_6.out).2.2 x7_3 p227 q227
                        cases e227
                        replace p227 := eq_true p227
                        replace q227 := eq_true q227
                        go_upto_region 15 with (fail)
                        go_cut [55] (fun v55 wc => ∃ (kq : Nat) (x55_18 : Bool), v55 = .bool x55_18 ∧ Aside0 (wainloadref14_Clean.j3 kq x5_3 t224 x7_3 x55_18 = some (r1, r2)) ∧ Aside0 (kq ≤ k3) ∧ Aside0 (Kd.R Kd.string 9 wc w.heap.size (fun _ => True) (.slice (some ad227) t224.length co20) t224) ∧ Aside0 (Below w.heap.size w wc))
                        case first =>
                          have H := HC19.out
                          clear HC19
                          by_cases c21 : (rdOf ByteArray.empty t224 x7_3).toList = ([] : List UInt8)
                          · rw [if_pos c21] at H
                            have c21b0 : ((rdOf ByteArray.empty t224 x7_3).toList == ([] : List UInt8)) = true := beq_iff_eq.mpr c21
                            have c21b1 : ((rdOf ByteArray.empty t224 x7_3).toList != ([] : List UInt8)) = false := bne_eq_false_iff_eq.mpr c21
                            clear c21
                            (first | rw [c21b0] | (simp only [i64_w, i32_w]; rw [c21b0]) | skip)
                            have H' := Aside0.mk H
                            clear H
                            have p228 : 0 ≤ (x7_3 : Int) := of_decide_eq_true (by first | (with_reducible assumption) | assumption)
                            have q228 : x7_3 < (t224.length : Int) := of_decide_eq_true (by first | (with_reducible assumption) | assumption)
                            obtain ⟨ad228, e228, hx228_0⟩ := Kd.at_string (Kd.R_reads' HO_6.out).2.2 x7_3 p228 q228
                            obtain rfl : ad227 = ad228 := (by injection e228)
                            replace p228 := eq_true p228
                            replace q228 := eq_true q228
                            go_wp2
                            go_meet
                            case rel => exact ⟨_, (true), (by first | rfl | (simp; done) | (simp [*]; done)), H', ⟨by have := HJ1.out; have := HK2.out; have := HK3.out; first | omega | exact Nat.le_refl _⟩, ⟨by (with_reducible repeat (first | apply Kd.R_alloc | apply Kd.R_drewN | apply Kd.R_drew)); exact HO_6.out⟩, ⟨by repeat (first | (with_reducible first | exact HB.out | apply below_alloc | apply pw_below_drewN | apply below_drew1) | exact HB.out)⟩⟩
                          · rw [if_neg c21] at H
                            have c21b0 : ((rdOf ByteArray.empty t224 x7_3).toList == ([] : List UInt8)) = false := beq_eq_false_iff_ne.mpr c21
                            have c21b1 : ((rdOf ByteArray.empty t224 x7_3).toList != ([] : List UInt8)) = true := bne_iff_ne.mpr c21
                            (first | rw [c21b0] | (simp only [i64_w, i32_w]; rw [c21b0]) | skip)
                            have H' := Aside0.mk H
                            clear H
                            have p228 : 0 ≤ (x7_3 : Int) := of_decide_eq_true (by first | (with_reducible assumption) | assumption)
                            have q228 : x7_3 < (t224.length : Int) := of_decide_eq_true (by first | (with_reducible assumption) | assumption)
                            obtain ⟨ad228, e228, hx228_0⟩ := Kd.at_string (Kd.R_reads' HO_6.out).2.2 x7_3 p228 q228
                            obtain rfl : ad227 = ad228 := (by injection e228)
                            replace p228 := eq_true p228
                            replace q228 := eq_true q228
                            have p229 : 0 ≤ (x7_3 : Int) := of_decide_eq_true (by first | (with_reducible assumption) | assumption)
                            have q229 : x7_3 < (t224.length : Int) := of_decide_eq_true (by first | (with_reducible assumption) | assumption)
                            obtain ⟨ad229, e229, hx229_0⟩ := Kd.at_string (Kd.R_reads' HO_6.out).2.2 x7_3 p229 q229
                            obtain rfl : ad227 = ad229 := (by injection e229)
                            replace p229 := eq_true p229
                            replace q229 := eq_true q229
                            go_wp2
                            go_meet
                            case rel => exact ⟨_, (((rdOf ByteArray.empty t224 x7_3).toList == ([46] : List UInt8))), (by first | rfl | (simp; done) | (simp [*]; done)), H', ⟨by have := HJ1.out; have := HK2.out; have := HK3.out; first | omega | exact Nat.le_refl _⟩, ⟨by (with_reducible repeat (first | apply Kd.R_alloc | apply Kd.R_drewN | apply Kd.R_drew)); exact HO_6.out⟩, ⟨by repeat (first | (with_reducible first | exact HB.out | apply below_alloc | apply pw_below_drewN | apply below_drew1) | exact HB.out)⟩⟩
                        case rest =>
                          clear HC19
                          try clear c1
                          try clear p1
                          try clear q1
                          try clear hx1
                          try clear c2
                          try clear p2
                          try clear q2
                          try clear hx2
                          try clear c4
                          try clear c5
                          try clear c5b0
                          try clear c5b1
                          try clear c6
                          try clear c6b0
                          try clear c6b1
                          try clear p6
                          try clear c7
                          try clear p7
                          try clear q7
                          try clear hx7
                          try clear qi7
                          try clear c8
                          try clear c9
                          try clear c9b0
                          try clear c10
                          try clear c10b0
                          try clear p11
                          try clear q11
                          try clear hx11
                          try clear c12
                          try clear c12b0
                          try clear c12b1
                          try clear c15
                          try clear c15b0
                          try clear c16
                          try clear c16b0
                          try clear c17
                          try clear c17b0
                          try clear c17b1
                          try clear c21
                          try clear c21b0
                          try clear c21b1
                          try clear hx227_0
                          try clear hx228_0
                          try clear hx229_0
                          try clear p1
                          try clear p11
                          try clear p2
                          try clear p227
                          try clear p228
                          try clear p229
                          try clear p6
                          try clear p7
                          try clear q1
                          try clear q11
                          try clear q227
                          try clear q228
                          try clear q229
                          try clear q7
                          obtain ⟨kq, x55_18, rfl, HA, HJ18, HO_6, HB⟩ := hcut
                          cases kq with
                          | zero => exact absurd HA.out (by simp [wainloadref14_Clean.j3])
                          | succ kj18 =>
                            have H := HA.out
                            clear HA
                            simp only [wainloadref14_Clean.j3] at H
                            by_cases c22 : x55_18 = true
                            · subst c22
                              have H1 : (wainloadref14_Clean.l1 kj18 x5_3 t224 (wrap64 (x7_3 + 1))) = some (r1, r2) := by rw [if_pos rfl] at H; exact H
                              clear H
                              have H := H1
                              clear H1
                              have H' := Aside0.mk H
                              clear H
                              go_wp2
                              go_roundg kj18
                              case measure => have := HJ1.out; have := HK2.out; have := HK3.out; have := HJ18.out; omega
                              case rel => exact ⟨(x5_3), (wrap64 (x7_3 + 1)), (by first | rfl | (simp; done) | (simp [*]; done)), (by first | rfl | (simp; done) | (simp [*]; done)), H', ⟨by have := HJ1.out; have := HK2.out; have := HK3.out; have := HJ18.out; omega⟩, ⟨by (with_reducible repeat (first | apply Kd.R_alloc | apply Kd.R_drewN | apply Kd.R_drew)); exact HO_6.out⟩, ⟨by repeat (first | (with_reducible first | exact HB.out | apply below_alloc | apply pw_below_drewN | apply below_drew1) | exact HB.out)⟩⟩
                            · replace c22 := Bool.eq_false_iff.mpr c22
                              subst c22
                              have H1 : (if x5_3.toList = ([] : List UInt8) then (if 0 ≤ x7_3 then (if x7_3 < (t224.length : Int) then (if x5_3.size + (rdOf ByteArray.empty t224 x7_3).size ≤ 9223372036854775807 then (wainloadref14_Clean.l1 kj18 (x5_3 ++ (rdOf ByteArray.empty t224 x7_3)) t224 (wrap64 (x7_3 + 1))) else (none)) else (none)) else (none)) else (if x5_3.size + 1 ≤ 9223372036854775807 then (if 0 ≤ x7_3 then (if x7_3 < (t224.length : Int) then (if (x5_3 ++ (⟨#[47]⟩ : ByteArray)).size + (rdOf ByteArray.empty t224 x7_3).size ≤ 9223372036854775807 then (wainloadref14_Clean.l1 kj18 ((x5_3 ++ (⟨#[47]⟩ : ByteArray)) ++ (rdOf ByteArray.empty t224 x7_3)) t224 (wrap64 (x7_3 + 1))) else (none)) else (none)) else (none)) else (none))) = some (r1, r2) := by rw [if_neg (show ¬ (false = true) by decide)] at H; exact H
                              clear H
                              have H := H1
                              clear H1
                              by_cases c23 : x5_3.toList = ([] : List UInt8)
                              · rw [if_pos c23] at H
                                have c23b0 : (x5_3.toList == ([] : List UInt8)) = true := beq_iff_eq.mpr c23
                                have c23b1 : (x5_3.toList != ([] : List UInt8)) = false := bne_eq_false_iff_eq.mpr c23
                                clear c23
                                by_cases c24 : 0 ≤ x7_3
                                · rw [if_pos c24] at H
                                  have c24b0 : decide (0 ≤ x7_3) = true := decide_eq_true c24
                                  clear c24
                                  by_cases c25 : x7_3 < (t224.length : Int)
                                  · rw [if_pos c25] at H
                                    have c25b0 : decide (x7_3 < (t224.length : Int)) = true := decide_eq_true c25
                                    clear c25
                                    by_cases c26 : x5_3.size + (rdOf ByteArray.empty t224 x7_3).size ≤ 9223372036854775807
                                    · rw [if_pos c26] at H
                                      have c26b0 := eq_true c26
                                      have c26b1 : decide (x5_3.size + (rdOf ByteArray.empty t224 x7_3).size ≤ 9223372036854775807) = true := decide_eq_true c26
                                      try have c26b2 : (9223372036854775807 < x5_3.size + (rdOf ByteArray.empty t224 x7_3).size) = False := eq_false (Nat.not_lt.2 c26)
                                      have H' := Aside0.mk H
                                      clear H
                                      have p230 : 0 ≤ (x7_3 : Int) := of_decide_eq_true (by first | (with_reducible assumption) | assumption)
                                      have q230 : x7_3 < (t224.length : Int) := of_decide_eq_true (by first | (with_reducible assumption) | assumption)
                                      obtain ⟨ad230, e230, hx230_0⟩ := Kd.at_string (Kd.R_reads' HO_6.out).2.2 x7_3 p230 q230
                                      obtain rfl : ad227 = ad230 := (by injection e230)
                                      replace p230 := eq_true p230
                                      replace q230 := eq_true q230
                                      go_wp2
                                      go_roundg kj18
                                      case measure => have := HJ1.out; have := HK2.out; have := HK3.out; have := HJ18.out; omega
                                      case rel => exact ⟨(x5_3 ++ (rdOf ByteArray.empty t224 x7_3)), (wrap64 (x7_3 + 1)), (by first | rfl | (simp; done) | (simp [*]; done)), (by first | rfl | (simp; done) | (simp [*]; done)), H', ⟨by have := HJ1.out; have := HK2.out; have := HK3.out; have := HJ18.out; omega⟩, ⟨by (with_reducible repeat (first | apply Kd.R_alloc | apply Kd.R_drewN | apply Kd.R_drew)); exact HO_6.out⟩, ⟨by repeat (first | (with_reducible first | exact HB.out | apply below_alloc | apply pw_below_drewN | apply below_drew1) | exact HB.out)⟩⟩
                                    · rw [if_neg c26] at H
                                      exact absurd H (by simp)
                                  · rw [if_neg c25] at H
                                    exact absurd H (by simp)
                                · rw [if_neg c24] at H
                                  exact absurd H (by simp)
                              · rw [if_neg c23] at H
                                have c23b0 : (x5_3.toList == ([] : List UInt8)) = false := beq_eq_false_iff_ne.mpr c23
                                have c23b1 : (x5_3.toList != ([] : List UInt8)) = true := bne_iff_ne.mpr c23
                                by_cases c27 : x5_3.size + 1 ≤ 9223372036854775807
                                · rw [if_pos c27] at H
                                  have c27b0 := eq_true c27
                                  have c27b1 : decide (x5_3.size + 1 ≤ 9223372036854775807) = true := decide_eq_true c27
                                  try have c27b2 : (9223372036854775807 < x5_3.size + 1) = False := eq_false (Nat.not_lt.2 c27)
                                  by_cases c28 : 0 ≤ x7_3
                                  · rw [if_pos c28] at H
                                    have c28b0 : decide (0 ≤ x7_3) = true := decide_eq_true c28
                                    clear c28
                                    by_cases c29 : x7_3 < (t224.length : Int)
                                    · rw [if_pos c29] at H
                                      have c29b0 : decide (x7_3 < (t224.length : Int)) = true := decide_eq_true c29
                                      clear c29
                                      by_cases c30 : (x5_3 ++ (⟨#[47]⟩ : ByteArray)).size + (rdOf ByteArray.empty t224 x7_3).size ≤ 9223372036854775807
                                      · rw [if_pos c30] at H
                                        have c30b0 := eq_true c30
                                        have c30b1 : decide ((x5_3 ++ (⟨#[47]⟩ : ByteArray)).size + (rdOf ByteArray.empty t224 x7_3).size ≤ 9223372036854775807) = true := decide_eq_true c30
                                        try have c30b2 : (9223372036854775807 < (x5_3 ++ (⟨#[47]⟩ : ByteArray)).size + (rdOf ByteArray.empty t224 x7_3).size) = False := eq_false (Nat.not_lt.2 c30)
                                        have H' := Aside0.mk H
                                        clear H
                                        have p231 : 0 ≤ (x7_3 : Int) := of_decide_eq_true (by first | (with_reducible assumption) | assumption)
                                        have q231 : x7_3 < (t224.length : Int) := of_decide_eq_true (by first | (with_reducible assumption) | assumption)
                                        obtain ⟨ad231, e231, hx231_0⟩ := Kd.at_string (Kd.R_reads' HO_6.out).2.2 x7_3 p231 q231
                                        obtain rfl : ad227 = ad231 := (by injection e231)
                                        replace p231 := eq_true p231
                                        replace q231 := eq_true q231
                                        go_wp2
                                        go_roundg kj18
                                        case measure => have := HJ1.out; have := HK2.out; have := HK3.out; have := HJ18.out; omega
                                        case rel => exact ⟨((x5_3 ++ (⟨#[47]⟩ : ByteArray)) ++ (rdOf ByteArray.empty t224 x7_3)), (wrap64 (x7_3 + 1)), (by first | rfl | (simp; done) | (simp [*]; done)), (by first | rfl | (simp; done) | (simp [*]; done)), H', ⟨by have := HJ1.out; have := HK2.out; have := HK3.out; have := HJ18.out; omega⟩, ⟨by (with_reducible repeat (first | apply Kd.R_alloc | apply Kd.R_drewN | apply Kd.R_drew)); exact HO_6.out⟩, ⟨by repeat (first | (with_reducible first | exact HB.out | apply below_alloc | apply pw_below_drewN | apply below_drew1) | exact HB.out)⟩⟩
                                      · rw [if_neg c30] at H
                                        exact absurd H (by simp)
                                    · rw [if_neg c29] at H
                                      exact absurd H (by simp)
                                  · rw [if_neg c28] at H
                                    exact absurd H (by simp)
                                · rw [if_neg c27] at H
                                  exact absurd H (by simp)
                    · rw [if_neg c16] at H
                      exact absurd H (by simp)
                  · rw [if_neg c15] at H
                    have c15b0 : decide (x7_3 < (t224.length : Int)) = false := decide_eq_false c15
                    clear c15
                    by_cases c31 : x5_3.toList = ([] : List UInt8)
                    · rw [if_pos c31] at H
                      have c31b0 : (x5_3.toList == ([] : List UInt8)) = true := beq_iff_eq.mpr c31
                      have c31b1 : (x5_3.toList != ([] : List UInt8)) = false := bne_eq_false_iff_eq.mpr c31
                      clear c31
                      simp only [Option.some.injEq, Prod.mk.injEq] at H
                      obtain ⟨rfl, rfl⟩ := H
                      obtain ⟨Ao32, co32, eo32⟩ := Kd.R_slice HO_6.out
                      subst eo32
                      go_wp2
                      go_ret2
                      exact ⟨by first | rfl | (simp [errW_none, errW_some] <;> rfl) | (simp [*, errW_none, errW_some] <;> rfl), by repeat (first | (with_reducible first | exact HB.out | apply below_alloc | apply pw_below_drewN | apply below_drew1) | exact HB.out)⟩
                    · rw [if_neg c31] at H
                      have c31b0 : (x5_3.toList == ([] : List UInt8)) = false := beq_eq_false_iff_ne.mpr c31
                      have c31b1 : (x5_3.toList != ([] : List UInt8)) = true := bne_iff_ne.mpr c31
                      by_cases c33 : (x5_3.size : Int) > 200
                      · rw [if_pos c33] at H
                        have c33b0 : decide (200 < (x5_3.size : Int)) = true := decide_eq_true c33
                        have c33b1 : decide (200 < x5_3.size) = true := decide_eq_true (by omega)
                        clear c33
                        simp only [Option.some.injEq, Prod.mk.injEq] at H
                        obtain ⟨rfl, rfl⟩ := H
                        obtain ⟨Ao34, co34, eo34⟩ := Kd.R_slice HO_6.out
                        subst eo34
                        go_wp2
                        go_ret2
                        exact ⟨by first | rfl | (simp [errW_none, errW_some] <;> rfl) | (simp [*, errW_none, errW_some] <;> rfl), by repeat (first | (with_reducible first | exact HB.out | apply below_alloc | apply pw_below_drewN | apply below_drew1) | exact HB.out)⟩
                      · rw [if_neg c33] at H
                        have c33b0 : decide (200 < (x5_3.size : Int)) = false := decide_eq_false c33
                        have c33b1 : decide (200 < x5_3.size) = false := decide_eq_false (by omega)
                        clear c33
                        simp only [Option.some.injEq, Prod.mk.injEq] at H
                        obtain ⟨rfl, rfl⟩ := H
                        obtain ⟨Ao35, co35, eo35⟩ := Kd.R_slice HO_6.out
                        subst eo35
                        go_wp2
                        go_ret2
                        exact ⟨by first | rfl | (simp [errW_none, errW_some] <;> rfl) | (simp [*, errW_none, errW_some] <;> rfl), by repeat (first | (with_reducible first | exact HB.out | apply below_alloc | apply pw_below_drewN | apply below_drew1) | exact HB.out)⟩

end Go.Proofs.YtkmcbpkciakmeaaGreatDoor.PA

namespace Go.Proofs.YtkmcbpkciakmeaaGreatDoor.PA
open Go.RowKit Go.Proofs.YtkmcbpkciakmeaaGreatDoorW.PrintWords Go.Proofs.YtkmcbpkciakmeaaGreatDoorW.PrintLast Go.Proofs.YtkmcbpkciakmeaaGreatDoorW.PrintMore
attribute [local go_sem] max2_int min2_int max_two min_two max_three min_three max_four min_four   -- for this text's walks alone
set_option linter.unusedVariables false
set_option linter.unusedSimpArgs false
attribute [local go_sem high] binOp_string_gtr_lt

/-! ### wainloadref16_right: function 40 -/
mutual
def wainloadref16_right.j0 : Nat → Bool → Int → ByteArray → ByteArray → Int → Int → ByteArray → Option (Bool)
  | 0, _, _, _, _, _, _, _ => none
  | k + 1, x29, x233000, x233001, x233002, x233003, x233004, x233005 => if x29 = true then (some false) else (if x233000 = 1 then (some (x233002.toList == ([] : List UInt8))) else (if x233000 = 2 then (if x233005.toList = ([] : List UInt8) then (some (x233002.toList == ([] : List UInt8))) else (some false)) else (if x233000 = 3 then (if x233005.toList = ([] : List UInt8) then (if x233002.toList = ([] : List UInt8) then (wainloadref16_right.j1 k true x233000 x233001 x233002 x233003 x233004 x233005) else (wainloadref16_right.j1 k (decide ((x233002.size : Int) > 200)) x233000 x233001 x233002 x233003 x233004 x233005)) else (wainloadref16_right.j1 k true x233000 x233001 x233002 x233003 x233004 x233005)) else (wainloadref16_right.j1 k true x233000 x233001 x233002 x233003 x233004 x233005))))
def wainloadref16_right.j1 : Nat → Bool → Int → ByteArray → ByteArray → Int → Int → ByteArray → Option (Bool)
  | 0, _, _, _, _, _, _, _ => none
  | k + 1, x65, x233000, x233001, x233002, x233003, x233004, x233005 => if x65 = true then (some false) else (wainloadref16_right.l0 k 0 x233000 x233001 x233002 x233003 x233004 x233005)
def wainloadref16_right.l0 : Nat → Int → Int → ByteArray → ByteArray → Int → Int → ByteArray → Option (Bool)
  | 0, _, _, _, _, _, _, _ => none
  | k + 1, x5, x233000, x233001, x233002, x233003, x233004, x233005 => if x5 < (x233002.size : Int) then (if 0 ≤ x5 then (if (bt x233002 x5) = 0 then (some false) else (wainloadref16_right.l0 k (wrap64 (x5 + 1)) x233000 x233001 x233002 x233003 x233004 x233005)) else (none)) else ((wainloadref14_Valid.f k x233002).bind fun t235 => (some t235))
end
def wainloadref16_right.f (k : Nat) (a0_0 : Int) (a0_1 : ByteArray) (a0_2 : ByteArray) (a0_3 : Int) (a0_4 : Int) (a0_5 : ByteArray) : Option (Bool) := (wainloadref14_Clean.f k a0_1).bind fun bt233 => (if bt233.2 = 0 then (if bt233.1.toList = a0_1.toList then (if a0_3 < 0 then (wainloadref16_right.j0 k true a0_0 a0_1 a0_2 a0_3 a0_4 a0_5) else (wainloadref16_right.j0 k (decide (a0_3 > 4095)) a0_0 a0_1 a0_2 a0_3 a0_4 a0_5)) else (wainloadref16_right.j0 k true a0_0 a0_1 a0_2 a0_3 a0_4 a0_5)) else (wainloadref16_right.j0 k true a0_0 a0_1 a0_2 a0_3 a0_4 a0_5))
theorem wainloadref16_right.mono_l : ∀ k, (∀ y0 y1 y2 y3 y4 y5 y6, LeO (wainloadref16_right.j0 k y0 y1 y2 y3 y4 y5 y6) (wainloadref16_right.j0 (k + 1) y0 y1 y2 y3 y4 y5 y6)) ∧ (∀ y0 y1 y2 y3 y4 y5 y6, LeO (wainloadref16_right.j1 k y0 y1 y2 y3 y4 y5 y6) (wainloadref16_right.j1 (k + 1) y0 y1 y2 y3 y4 y5 y6)) ∧ (∀ y0 y1 y2 y3 y4 y5 y6, LeO (wainloadref16_right.l0 k y0 y1 y2 y3 y4 y5 y6) (wainloadref16_right.l0 (k + 1) y0 y1 y2 y3 y4 y5 y6))
  | 0 => ⟨fun _ _ _ _ _ _ _ r h => by simp [wainloadref16_right.j0] at h, fun _ _ _ _ _ _ _ r h => by simp [wainloadref16_right.j1] at h, fun _ _ _ _ _ _ _ r h => by simp [wainloadref16_right.l0] at h⟩
  | k + 1 => by
    obtain ⟨ih0, ih1, ih2⟩ := wainloadref16_right.mono_l k
    refine ⟨?_, ?_, ?_⟩
    · intro y0 y1 y2 y3 y4 y5 y6
      unfold wainloadref16_right.j0
      repeat' first
      | (with_reducible exact ih0 _ _ _ _ _ _ _)
      | (with_reducible exact ih1 _ _ _ _ _ _ _)
      | (with_reducible exact ih2 _ _ _ _ _ _ _)
      | (with_reducible exact wainloadref14_Clean.mono _ _)
      | (with_reducible exact wainloadref14_Valid.mono _ _)
      | (with_reducible exact LeO.refl _)
      | (with_reducible exact LeO.none _)
      | (with_reducible refine LeO.ite ?_ ?_)
      | (with_reducible refine LeO.bind ?_ (fun _ => ?_))
      | exact ih0 _ _ _ _ _ _ _
      | exact ih1 _ _ _ _ _ _ _
      | exact ih2 _ _ _ _ _ _ _
      | exact wainloadref14_Clean.mono _ _
      | exact wainloadref14_Valid.mono _ _
      | exact LeO.none _
      | refine LeO.ite ?_ ?_
      | refine LeO.bind ?_ (fun _ => ?_)
    · intro y0 y1 y2 y3 y4 y5 y6
      unfold wainloadref16_right.j1
      repeat' first
      | (with_reducible exact ih0 _ _ _ _ _ _ _)
      | (with_reducible exact ih1 _ _ _ _ _ _ _)
      | (with_reducible exact ih2 _ _ _ _ _ _ _)
      | (with_reducible exact wainloadref14_Clean.mono _ _)
      | (with_reducible exact wainloadref14_Valid.mono _ _)
      | (with_reducible exact LeO.refl _)
      | (with_reducible exact LeO.none _)
      | (with_reducible refine LeO.ite ?_ ?_)
      | (with_reducible refine LeO.bind ?_ (fun _ => ?_))
      | exact ih0 _ _ _ _ _ _ _
      | exact ih1 _ _ _ _ _ _ _
      | exact ih2 _ _ _ _ _ _ _
      | exact wainloadref14_Clean.mono _ _
      | exact wainloadref14_Valid.mono _ _
      | exact LeO.none _
      | refine LeO.ite ?_ ?_
      | refine LeO.bind ?_ (fun _ => ?_)
    · intro y0 y1 y2 y3 y4 y5 y6
      unfold wainloadref16_right.l0
      repeat' first
      | (with_reducible exact ih0 _ _ _ _ _ _ _)
      | (with_reducible exact ih1 _ _ _ _ _ _ _)
      | (with_reducible exact ih2 _ _ _ _ _ _ _)
      | (with_reducible exact wainloadref14_Clean.mono _ _)
      | (with_reducible exact wainloadref14_Valid.mono _ _)
      | (with_reducible exact LeO.refl _)
      | (with_reducible exact LeO.none _)
      | (with_reducible refine LeO.ite ?_ ?_)
      | (with_reducible refine LeO.bind ?_ (fun _ => ?_))
      | exact ih0 _ _ _ _ _ _ _
      | exact ih1 _ _ _ _ _ _ _
      | exact ih2 _ _ _ _ _ _ _
      | exact wainloadref14_Clean.mono _ _
      | exact wainloadref14_Valid.mono _ _
      | exact LeO.none _
      | refine LeO.ite ?_ ?_
      | refine LeO.bind ?_ (fun _ => ?_)
theorem wainloadref16_right.mono : ∀ a0 a1 a2 a3 a4 a5 k, LeO (wainloadref16_right.f k a0 a1 a2 a3 a4 a5) (wainloadref16_right.f (k + 1) a0 a1 a2 a3 a4 a5) := by
  intro a0 a1 a2 a3 a4 a5 k
  obtain ⟨ih0, ih1, ih2⟩ := wainloadref16_right.mono_l k
  unfold wainloadref16_right.f
  repeat' first
      | (with_reducible exact ih0 _ _ _ _ _ _ _)
      | (with_reducible exact ih1 _ _ _ _ _ _ _)
      | (with_reducible exact ih2 _ _ _ _ _ _ _)
      | (with_reducible exact wainloadref14_Clean.mono _ _)
      | (with_reducible exact wainloadref14_Valid.mono _ _)
      | (with_reducible exact LeO.refl _)
      | (with_reducible exact LeO.none _)
      | (with_reducible refine LeO.ite ?_ ?_)
      | (with_reducible refine LeO.bind ?_ (fun _ => ?_))
      | exact ih0 _ _ _ _ _ _ _
      | exact ih1 _ _ _ _ _ _ _
      | exact ih2 _ _ _ _ _ _ _
      | exact wainloadref14_Clean.mono _ _
      | exact wainloadref14_Valid.mono _ _
      | exact LeO.none _
      | refine LeO.ite ?_ ?_
      | refine LeO.bind ?_ (fun _ => ?_)
set_option maxHeartbeats 8000000 in
set_option maxRecDepth 100000 in
theorem wainloadref16_right.calls (k : Nat) (a0_0 : Int) (a0_1 : ByteArray) (a0_2 : ByteArray) (a0_3 : Int) (a0_4 : Int) (a0_5 : ByteArray) (r : Bool) (w : World) (h : wainloadref16_right.f k a0_0 a0_1 a0_2 a0_3 a0_4 a0_5 = some r) :
    Calls Tryz.prog 40 #[.agg #[.int .i64 a0_0, .string a0_1, .string a0_2, .int .i64 a0_3, .int .i64 a0_4, .string a0_5]] w fun e w' => e = .returned (.bool r) ∧ Below w.heap.size w w' := by
  have hu44 := Tryz.underlying44
  have HB := Aside0.mk (Below.refl w.heap.size w)
  have H : ((wainloadref14_Clean.f k a0_1).bind fun bt233 => (if bt233.2 = 0 then (if bt233.1.toList = a0_1.toList then (if a0_3 < 0 then (wainloadref16_right.j0 k true a0_0 a0_1 a0_2 a0_3 a0_4 a0_5) else (wainloadref16_right.j0 k (decide (a0_3 > 4095)) a0_0 a0_1 a0_2 a0_3 a0_4 a0_5)) else (wainloadref16_right.j0 k true a0_0 a0_1 a0_2 a0_3 a0_4 a0_5)) else (wainloadref16_right.j0 k true a0_0 a0_1 a0_2 a0_3 a0_4 a0_5))) = some r := h
  clear h
  replace H := Option.bind_eq_some_iff.mp H
  obtain ⟨⟨t233, t234⟩, A20, H⟩ := H
  replace H : (if t234 = 0 then (if t233.toList = a0_1.toList then (if a0_3 < 0 then (wainloadref16_right.j0 k true a0_0 a0_1 a0_2 a0_3 a0_4 a0_5) else (wainloadref16_right.j0 k (decide (a0_3 > 4095)) a0_0 a0_1 a0_2 a0_3 a0_4 a0_5)) else (wainloadref16_right.j0 k true a0_0 a0_1 a0_2 a0_3 a0_4 a0_5)) else (wainloadref16_right.j0 k true a0_0 a0_1 a0_2 a0_3 a0_4 a0_5)) = some r := H
  have A2 := Aside0.mk A20
  clear A20
  have HC3 := Aside0.mk H
  clear H
  go_enter Tryz.func40, Tryz.ntmps40
  go_upto_region 2 with (first | ((with_reducible refine gate_dst (N := 1) rfl ?_); (try (refine gate_guard (by rfl) ?_; dsimp only)); refine box_event ?hg (N := 1) ?hd (cs := #[.int .i64 a0_0, .string a0_1, .string a0_2, .int .i64 a0_3, .int .i64 a0_4, .string a0_5]) (t := 44) ?hr ?_; (case hd => rfl); (case hg => rfl); (case hr => first | (go_simp; done) | (go_simp; rfl)); intro gb232 hg w4 hbox hb; have n0_ := Aside0.mk (below_step (by repeat (first | (with_reducible first | exact HB.out | apply below_alloc | apply pw_below_drewN | apply below_drew1) | exact HB.out)) hb); have n1_ := Aside0.mk (hbox); have n2_ := Aside0.mk ((by rw [hg]; exact (below_size (by repeat (first | (with_reducible first | exact HB.out | apply below_alloc | apply pw_below_drewN | apply below_drew1) | exact HB.out))) : w.heap.size ≤ gb232)); have n3_ := Aside0.mk ((by rw [hg]; exact (below_size (by repeat (first | (with_reducible first | exact HB.out | apply below_alloc | apply pw_below_drewN | apply below_drew1) | exact HB.out))) : w.heap.size ≤ gb232)); clear HB; have HB := n0_; have BK232 := n1_; have GW232 := n2_; have GE232 := n3_; clear n0_ n1_ n2_ n3_; clear hb hbox hg; have hcz5_0 : w4.cell? ⟨gb232, 0, none⟩ = some (.int .i64 a0_0) := (blk_cell BK232.out 0).trans rfl; have hcz5_1 : w4.cell? ⟨gb232, 1, none⟩ = some (.string a0_1) := (blk_cell BK232.out 1).trans rfl; have hcz5_2 : w4.cell? ⟨gb232, 2, none⟩ = some (.string a0_2) := (blk_cell BK232.out 2).trans rfl; have hcz5_3 : w4.cell? ⟨gb232, 3, none⟩ = some (.int .i64 a0_3) := (blk_cell BK232.out 3).trans rfl; have hcz5_4 : w4.cell? ⟨gb232, 4, none⟩ = some (.int .i64 a0_4) := (blk_cell BK232.out 4).trans rfl; have hcz5_5 : w4.cell? ⟨gb232, 5, none⟩ = some (.string a0_5) := (blk_cell BK232.out 5).trans rfl; have hfz5_0 := blk_frozen BK232.out 0; have hfz5_1 := blk_frozen BK232.out 1; have hfz5_2 := blk_frozen BK232.out 2; have hfz5_3 := blk_frozen BK232.out 3; have hfz5_4 := blk_frozen BK232.out 4; have hfz5_5 := blk_frozen BK232.out 5) | ((with_reducible refine gate_callee (f := 72) rfl ?_); refine goesL_ (some 9) rfl rfl Tryz.func72 (by kernel_rfl) rfl #[.string a0_1] rfl (by (try simp only [List.map_toArray, List.map_cons, List.map_nil]); first | done | rfl | (simp only [List.length_drop, List.length_take]; rfl)) ?_; (with_reducible refine (wainloadref14_Clean.calls k a0_1 t233 t234 _ A2.out).mono ?_); rintro e w6 ⟨rfl, hb⟩; refine ⟨_, rfl, ?_⟩; have n0_ := Aside0.mk (blk_below (g := gb232) (o := .cells #[.int .i64 a0_0, .string a0_1, .string a0_2, .int .i64 a0_3, .int .i64 a0_4, .string a0_5] 44 (0, 0)) (by (with_reducible repeat (first | refine blk_drewN ?_ _ | refine blk_drew ?_ | refine blk_alloc ?_ _)); exact BK232.out) hb); have n1_ := Aside0.mk (below_step (by repeat (first | (with_reducible first | exact HB.out | apply below_alloc | apply pw_below_drewN | apply below_drew1 | refine below_set ?_ GE232.out) | exact HB.out)) hb); clear BK232; clear HB; have BK232 := n0_; have HB := n1_; clear n0_ n1_; (try clear hb); (try clear hb2); (try clear hk); (try clear hi)))
  (try simp only [Act.put, List.setIfInBounds_toArray, List.set_cons_zero, List.set_cons_succ])
  go_cut [29] (fun v29 wc => ∃ (kq : Nat) (x29_2 : Bool), v29 = .bool x29_2 ∧ Aside0 (wainloadref16_right.j0 kq x29_2 a0_0 a0_1 a0_2 a0_3 a0_4 a0_5 = some r) ∧ Aside0 (kq ≤ k) ∧ Aside0 (wc.heap[gb232]? = some (.cells #[.int .i64 a0_0, .string a0_1, .string a0_2, .int .i64 a0_3, .int .i64 a0_4, .string a0_5] 44 (0, 0))) ∧ Aside0 (Below w.heap.size w wc))
  case first =>
    have H := HC3.out
    clear HC3
    by_cases c7 : t234 = 0
    · rw [if_pos c7] at H
      have c7b0 : (t234 == 0) = true := beq_iff_eq.mpr c7
      have c7b1 : (t234 != 0) = false := bne_eq_false_iff_eq.mpr c7
      clear c7
      (first | rw [c7b0] | (simp only [i64_w, i32_w]; rw [c7b0]) | skip)
      by_cases c8 : t233.toList = a0_1.toList
      · rw [if_pos c8] at H
        have c8b0 : (t233.toList == a0_1.toList) = true := beq_iff_eq.mpr c8
        have c8b1 : (t233.toList != a0_1.toList) = false := bne_eq_false_iff_eq.mpr c8
        clear c8
        by_cases c9 : a0_3 < 0
        · rw [if_pos c9] at H
          have c9b0 : decide (a0_3 < 0) = true := decide_eq_true c9
          clear c9
          have H' := Aside0.mk H
          clear H
          have hcz10_0 : w6.cell? ⟨gb232, 0, none⟩ = some (.int .i64 a0_0) := (blk_cell BK232.out 0).trans rfl
          have hcz10_1 : w6.cell? ⟨gb232, 1, none⟩ = some (.string a0_1) := (blk_cell BK232.out 1).trans rfl
          have hcz10_2 : w6.cell? ⟨gb232, 2, none⟩ = some (.string a0_2) := (blk_cell BK232.out 2).trans rfl
          have hcz10_3 : w6.cell? ⟨gb232, 3, none⟩ = some (.int .i64 a0_3) := (blk_cell BK232.out 3).trans rfl
          have hcz10_4 : w6.cell? ⟨gb232, 4, none⟩ = some (.int .i64 a0_4) := (blk_cell BK232.out 4).trans rfl
          have hcz10_5 : w6.cell? ⟨gb232, 5, none⟩ = some (.string a0_5) := (blk_cell BK232.out 5).trans rfl
          have hfz10_0 := blk_frozen BK232.out 0
          have hfz10_1 := blk_frozen BK232.out 1
          have hfz10_2 := blk_frozen BK232.out 2
          have hfz10_3 := blk_frozen BK232.out 3
          have hfz10_4 := blk_frozen BK232.out 4
          have hfz10_5 := blk_frozen BK232.out 5
          go_wp2
          go_meet
          case rel => exact ⟨_, (true), (by first | rfl | (simp; done) | (simp [*]; done)), H', ⟨by first | omega | exact Nat.le_refl _⟩, ⟨by (with_reducible repeat (first | refine blk_drewN ?_ _ | refine blk_drew ?_ | refine blk_alloc ?_ _)); exact BK232.out⟩, ⟨by repeat (first | (with_reducible first | exact HB.out | apply below_alloc | apply pw_below_drewN | apply below_drew1 | refine below_set ?_ GE232.out) | exact HB.out)⟩⟩
        · rw [if_neg c9] at H
          have c9b0 : decide (a0_3 < 0) = false := decide_eq_false c9
          clear c9
          have H' := Aside0.mk H
          clear H
          have hcz11_0 : w6.cell? ⟨gb232, 0, none⟩ = some (.int .i64 a0_0) := (blk_cell BK232.out 0).trans rfl
          have hcz11_1 : w6.cell? ⟨gb232, 1, none⟩ = some (.string a0_1) := (blk_cell BK232.out 1).trans rfl
          have hcz11_2 : w6.cell? ⟨gb232, 2, none⟩ = some (.string a0_2) := (blk_cell BK232.out 2).trans rfl
          have hcz11_3 : w6.cell? ⟨gb232, 3, none⟩ = some (.int .i64 a0_3) := (blk_cell BK232.out 3).trans rfl
          have hcz11_4 : w6.cell? ⟨gb232, 4, none⟩ = some (.int .i64 a0_4) := (blk_cell BK232.out 4).trans rfl
          have hcz11_5 : w6.cell? ⟨gb232, 5, none⟩ = some (.string a0_5) := (blk_cell BK232.out 5).trans rfl
          have hfz11_0 := blk_frozen BK232.out 0
          have hfz11_1 := blk_frozen BK232.out 1
          have hfz11_2 := blk_frozen BK232.out 2
          have hfz11_3 := blk_frozen BK232.out 3
          have hfz11_4 := blk_frozen BK232.out 4
          have hfz11_5 := blk_frozen BK232.out 5
          go_wp2
          go_meet
          case rel => exact ⟨_, (decide (a0_3 > 4095)), (by first | rfl | (simp; done) | (simp [*]; done)), H', ⟨by first | omega | exact Nat.le_refl _⟩, ⟨by (with_reducible repeat (first | refine blk_drewN ?_ _ | refine blk_drew ?_ | refine blk_alloc ?_ _)); exact BK232.out⟩, ⟨by repeat (first | (with_reducible first | exact HB.out | apply below_alloc | apply pw_below_drewN | apply below_drew1 | refine below_set ?_ GE232.out) | exact HB.out)⟩⟩
      · rw [if_neg c8] at H
        have c8b0 : (t233.toList == a0_1.toList) = false := beq_eq_false_iff_ne.mpr c8
        have c8b1 : (t233.toList != a0_1.toList) = true := bne_iff_ne.mpr c8
        have H' := Aside0.mk H
        clear H
        have hcz12_0 : w6.cell? ⟨gb232, 0, none⟩ = some (.int .i64 a0_0) := (blk_cell BK232.out 0).trans rfl
        have hcz12_1 : w6.cell? ⟨gb232, 1, none⟩ = some (.string a0_1) := (blk_cell BK232.out 1).trans rfl
        have hcz12_2 : w6.cell? ⟨gb232, 2, none⟩ = some (.string a0_2) := (blk_cell BK232.out 2).trans rfl
        have hcz12_3 : w6.cell? ⟨gb232, 3, none⟩ = some (.int .i64 a0_3) := (blk_cell BK232.out 3).trans rfl
        have hcz12_4 : w6.cell? ⟨gb232, 4, none⟩ = some (.int .i64 a0_4) := (blk_cell BK232.out 4).trans rfl
        have hcz12_5 : w6.cell? ⟨gb232, 5, none⟩ = some (.string a0_5) := (blk_cell BK232.out 5).trans rfl
        have hfz12_0 := blk_frozen BK232.out 0
        have hfz12_1 := blk_frozen BK232.out 1
        have hfz12_2 := blk_frozen BK232.out 2
        have hfz12_3 := blk_frozen BK232.out 3
        have hfz12_4 := blk_frozen BK232.out 4
        have hfz12_5 := blk_frozen BK232.out 5
        go_wp2
        go_meet
        case rel => exact ⟨_, (true), (by first | rfl | (simp; done) | (simp [*]; done)), H', ⟨by first | omega | exact Nat.le_refl _⟩, ⟨by (with_reducible repeat (first | refine blk_drewN ?_ _ | refine blk_drew ?_ | refine blk_alloc ?_ _)); exact BK232.out⟩, ⟨by repeat (first | (with_reducible first | exact HB.out | apply below_alloc | apply pw_below_drewN | apply below_drew1 | refine below_set ?_ GE232.out) | exact HB.out)⟩⟩
    · rw [if_neg c7] at H
      have c7b0 : (t234 == 0) = false := beq_eq_false_iff_ne.mpr c7
      have c7b1 : (t234 != 0) = true := bne_iff_ne.mpr c7
      (first | rw [c7b0] | (simp only [i64_w, i32_w]; rw [c7b0]) | skip)
      have H' := Aside0.mk H
      clear H
      go_wp2
      go_meet
      case rel => exact ⟨_, (true), (by first | rfl | (simp; done) | (simp [*]; done)), H', ⟨by first | omega | exact Nat.le_refl _⟩, ⟨by (with_reducible repeat (first | refine blk_drewN ?_ _ | refine blk_drew ?_ | refine blk_alloc ?_ _)); exact BK232.out⟩, ⟨by repeat (first | (with_reducible first | exact HB.out | apply below_alloc | apply pw_below_drewN | apply below_drew1 | refine below_set ?_ GE232.out) | exact HB.out)⟩⟩
  case rest =>
    clear HC3
    try clear p2
    try clear c4
    try clear c7
    try clear c7b0
    try clear c7b1
    try clear c8
    try clear c8b0
    try clear c8b1
    try clear c9
    try clear c9b0
    try clear hcz10_0
    try clear hcz10_1
    try clear hcz10_2
    try clear hcz10_3
    try clear hcz10_4
    try clear hcz10_5
    try clear hcz11_0
    try clear hcz11_1
    try clear hcz11_2
    try clear hcz11_3
    try clear hcz11_4
    try clear hcz11_5
    try clear hcz12_0
    try clear hcz12_1
    try clear hcz12_2
    try clear hcz12_3
    try clear hcz12_4
    try clear hcz12_5
    try clear hcz5_0
    try clear hcz5_1
    try clear hcz5_2
    try clear hcz5_3
    try clear hcz5_4
    try clear hcz5_5
    try clear hfz10_0
    try clear hfz10_1
    try clear hfz10_2
    try clear hfz10_3
    try clear hfz10_4
    try clear hfz10_5
    try clear hfz11_0
    try clear hfz11_1
    try clear hfz11_2
    try clear hfz11_3
    try clear hfz11_4
    try clear hfz11_5
    try clear hfz12_0
    try clear hfz12_1
    try clear hfz12_2
    try clear hfz12_3
    try clear hfz12_4
    try clear hfz12_5
    try clear hfz5_0
    try clear hfz5_1
    try clear hfz5_2
    try clear hfz5_3
    try clear hfz5_4
    try clear hfz5_5
    obtain ⟨kq, x29_2, rfl, HA, HJ2, BK232, HB⟩ := hcut
    cases kq with
    | zero => exact absurd HA.out (by simp [wainloadref16_right.j0])
    | succ kj2 =>
      have H := HA.out
      clear HA
      simp only [wainloadref16_right.j0] at H
      by_cases c13 : x29_2 = true
      · subst c13
        have H1 : (some false) = some r := by rw [if_pos rfl] at H; exact H
        clear H
        have H := H1
        clear H1
        obtain rfl := Option.some.inj H
        go_wp2
        go_ret
        exact ⟨by first | rfl | (simp [errW_none, errW_some] <;> rfl) | (simp [*, errW_none, errW_some] <;> rfl), by repeat (first | (with_reducible first | exact HB.out | apply below_alloc | apply pw_below_drewN | apply below_drew1 | refine below_set ?_ GE232.out) | exact HB.out)⟩
      · replace c13 := Bool.eq_false_iff.mpr c13
        subst c13
        have H1 : (if a0_0 = 1 then (some (a0_2.toList == ([] : List UInt8))) else (if a0_0 = 2 then (if a0_5.toList = ([] : List UInt8) then (some (a0_2.toList == ([] : List UInt8))) else (some false)) else (if a0_0 = 3 then (if a0_5.toList = ([] : List UInt8) then (if a0_2.toList = ([] : List UInt8) then (wainloadref16_right.j1 kj2 true a0_0 a0_1 a0_2 a0_3 a0_4 a0_5) else (wainloadref16_right.j1 kj2 (decide ((a0_2.size : Int) > 200)) a0_0 a0_1 a0_2 a0_3 a0_4 a0_5)) else (wainloadref16_right.j1 kj2 true a0_0 a0_1 a0_2 a0_3 a0_4 a0_5)) else (wainloadref16_right.j1 kj2 true a0_0 a0_1 a0_2 a0_3 a0_4 a0_5)))) = some r := by rw [if_neg (show ¬ (false = true) by decide)] at H; exact H
        clear H
        have H := H1
        clear H1
        by_cases c14 : a0_0 = 1
        · rw [if_pos c14] at H
          have c14b0 : (a0_0 == 1) = true := beq_iff_eq.mpr c14
          have c14b1 : (a0_0 != 1) = false := bne_eq_false_iff_eq.mpr c14
          clear c14
          obtain rfl := Option.some.inj H
          have hcz15_0 : wc.cell? ⟨gb232, 0, none⟩ = some (.int .i64 a0_0) := (blk_cell BK232.out 0).trans rfl
          have hcz15_1 : wc.cell? ⟨gb232, 1, none⟩ = some (.string a0_1) := (blk_cell BK232.out 1).trans rfl
          have hcz15_2 : wc.cell? ⟨gb232, 2, none⟩ = some (.string a0_2) := (blk_cell BK232.out 2).trans rfl
          have hcz15_3 : wc.cell? ⟨gb232, 3, none⟩ = some (.int .i64 a0_3) := (blk_cell BK232.out 3).trans rfl
          have hcz15_4 : wc.cell? ⟨gb232, 4, none⟩ = some (.int .i64 a0_4) := (blk_cell BK232.out 4).trans rfl
          have hcz15_5 : wc.cell? ⟨gb232, 5, none⟩ = some (.string a0_5) := (blk_cell BK232.out 5).trans rfl
          have hfz15_0 := blk_frozen BK232.out 0
          have hfz15_1 := blk_frozen BK232.out 1
          have hfz15_2 := blk_frozen BK232.out 2
          have hfz15_3 := blk_frozen BK232.out 3
          have hfz15_4 := blk_frozen BK232.out 4
          have hfz15_5 := blk_frozen BK232.out 5
          go_wp2
          go_ret
          exact ⟨by first | rfl | (simp [errW_none, errW_some] <;> rfl) | (simp [*, errW_none, errW_some] <;> rfl), by repeat (first | (with_reducible first | exact HB.out | apply below_alloc | apply pw_below_drewN | apply below_drew1 | refine below_set ?_ GE232.out) | exact HB.out)⟩
        · rw [if_neg c14] at H
          have c14b0 : (a0_0 == 1) = false := beq_eq_false_iff_ne.mpr c14
          have c14b1 : (a0_0 != 1) = true := bne_iff_ne.mpr c14
          by_cases c16 : a0_0 = 2
          · rw [if_pos c16] at H
            have c16b0 : (a0_0 == 2) = true := beq_iff_eq.mpr c16
            have c16b1 : (a0_0 != 2) = false := bne_eq_false_iff_eq.mpr c16
            clear c16
            by_cases c17 : a0_5.toList = ([] : List UInt8)
            · rw [if_pos c17] at H
              have c17b0 : (a0_5.toList == ([] : List UInt8)) = true := beq_iff_eq.mpr c17
              have c17b1 : (a0_5.toList != ([] : List UInt8)) = false := bne_eq_false_iff_eq.mpr c17
              clear c17
              obtain rfl := Option.some.inj H
              have hcz18_0 : wc.cell? ⟨gb232, 0, none⟩ = some (.int .i64 a0_0) := (blk_cell BK232.out 0).trans rfl
              have hcz18_1 : wc.cell? ⟨gb232, 1, none⟩ = some (.string a0_1) := (blk_cell BK232.out 1).trans rfl
              have hcz18_2 : wc.cell? ⟨gb232, 2, none⟩ = some (.string a0_2) := (blk_cell BK232.out 2).trans rfl
              have hcz18_3 : wc.cell? ⟨gb232, 3, none⟩ = some (.int .i64 a0_3) := (blk_cell BK232.out 3).trans rfl
              have hcz18_4 : wc.cell? ⟨gb232, 4, none⟩ = some (.int .i64 a0_4) := (blk_cell BK232.out 4).trans rfl
              have hcz18_5 : wc.cell? ⟨gb232, 5, none⟩ = some (.string a0_5) := (blk_cell BK232.out 5).trans rfl
              have hfz18_0 := blk_frozen BK232.out 0
              have hfz18_1 := blk_frozen BK232.out 1
              have hfz18_2 := blk_frozen BK232.out 2
              have hfz18_3 := blk_frozen BK232.out 3
              have hfz18_4 := blk_frozen BK232.out 4
              have hfz18_5 := blk_frozen BK232.out 5
              go_wp2
              go_ret
              exact ⟨by first | rfl | (simp [errW_none, errW_some] <;> rfl) | (simp [*, errW_none, errW_some] <;> rfl), by repeat (first | (with_reducible first | exact HB.out | apply below_alloc | apply pw_below_drewN | apply below_drew1 | refine below_set ?_ GE232.out) | exact HB.out)⟩
            · rw [if_neg c17] at H
              have c17b0 : (a0_5.toList == ([] : List UInt8)) = false := beq_eq_false_iff_ne.mpr c17
              have c17b1 : (a0_5.toList != ([] : List UInt8)) = true := bne_iff_ne.mpr c17
              obtain rfl := Option.some.inj H
              have hcz19_0 : wc.cell? ⟨gb232, 0, none⟩ = some (.int .i64 a0_0) := (blk_cell BK232.out 0).trans rfl
              have hcz19_1 : wc.cell? ⟨gb232, 1, none⟩ = some (.string a0_1) := (blk_cell BK232.out 1).trans rfl
              have hcz19_2 : wc.cell? ⟨gb232, 2, none⟩ = some (.string a0_2) := (blk_cell BK232.out 2).trans rfl
              have hcz19_3 : wc.cell? ⟨gb232, 3, none⟩ = some (.int .i64 a0_3) := (blk_cell BK232.out 3).trans rfl
              have hcz19_4 : wc.cell? ⟨gb232, 4, none⟩ = some (.int .i64 a0_4) := (blk_cell BK232.out 4).trans rfl
              have hcz19_5 : wc.cell? ⟨gb232, 5, none⟩ = some (.string a0_5) := (blk_cell BK232.out 5).trans rfl
              have hfz19_0 := blk_frozen BK232.out 0
              have hfz19_1 := blk_frozen BK232.out 1
              have hfz19_2 := blk_frozen BK232.out 2
              have hfz19_3 := blk_frozen BK232.out 3
              have hfz19_4 := blk_frozen BK232.out 4
              have hfz19_5 := blk_frozen BK232.out 5
              go_wp2
              go_ret
              exact ⟨by first | rfl | (simp [errW_none, errW_some] <;> rfl) | (simp [*, errW_none, errW_some] <;> rfl), by repeat (first | (with_reducible first | exact HB.out | apply below_alloc | apply pw_below_drewN | apply below_drew1 | refine below_set ?_ GE232.out) | exact HB.out)⟩
          · rw [if_neg c16] at H
            have c16b0 : (a0_0 == 2) = false := beq_eq_false_iff_ne.mpr c16
            have c16b1 : (a0_0 != 2) = true := bne_iff_ne.mpr c16
            have HC20 := Aside0.mk H
            clear H
            have hcz21_0 : wc.cell? ⟨gb232, 0, none⟩ = some (.int .i64 a0_0) := (blk_cell BK232.out 0).trans rfl
            have hcz21_1 : wc.cell? ⟨gb232, 1, none⟩ = some (.string a0_1) := (blk_cell BK232.out 1).trans rfl
            have hcz21_2 : wc.cell? ⟨gb232, 2, none⟩ = some (.string a0_2) := (blk_cell BK232.out 2).trans rfl
            have hcz21_3 : wc.cell? ⟨gb232, 3, none⟩ = some (.int .i64 a0_3) := (blk_cell BK232.out 3).trans rfl
            have hcz21_4 : wc.cell? ⟨gb232, 4, none⟩ = some (.int .i64 a0_4) := (blk_cell BK232.out 4).trans rfl
            have hcz21_5 : wc.cell? ⟨gb232, 5, none⟩ = some (.string a0_5) := (blk_cell BK232.out 5).trans rfl
            have hfz21_0 := blk_frozen BK232.out 0
            have hfz21_1 := blk_frozen BK232.out 1
            have hfz21_2 := blk_frozen BK232.out 2
            have hfz21_3 := blk_frozen BK232.out 3
            have hfz21_4 := blk_frozen BK232.out 4
            have hfz21_5 := blk_frozen BK232.out 5
            go_upto_region 8 with (fail)
            go_cut [65] (fun v65 wc => ∃ (kq : Nat) (x65_19 : Bool), v65 = .bool x65_19 ∧ Aside0 (wainloadref16_right.j1 kq x65_19 a0_0 a0_1 a0_2 a0_3 a0_4 a0_5 = some r) ∧ Aside0 (kq ≤ kj2) ∧ Aside0 (wc.heap[gb232]? = some (.cells #[.int .i64 a0_0, .string a0_1, .string a0_2, .int .i64 a0_3, .int .i64 a0_4, .string a0_5] 44 (0, 0))) ∧ Aside0 (Below w.heap.size w wc))
            case first =>
              have H := HC20.out
              clear HC20
              by_cases c22 : a0_0 = 3
              · rw [if_pos c22] at H
                have c22b0 : (a0_0 == 3) = true := beq_iff_eq.mpr c22
                have c22b1 : (a0_0 != 3) = false := bne_eq_false_iff_eq.mpr c22
                clear c22
                (first | rw [c22b0] | (simp only [i64_w, i32_w]; rw [c22b0]) | skip)
                by_cases c23 : a0_5.toList = ([] : List UInt8)
                · rw [if_pos c23] at H
                  have c23b0 : (a0_5.toList == ([] : List UInt8)) = true := beq_iff_eq.mpr c23
                  have c23b1 : (a0_5.toList != ([] : List UInt8)) = false := bne_eq_false_iff_eq.mpr c23
                  clear c23
                  by_cases c24 : a0_2.toList = ([] : List UInt8)
                  · rw [if_pos c24] at H
                    have c24b0 : (a0_2.toList == ([] : List UInt8)) = true := beq_iff_eq.mpr c24
                    have c24b1 : (a0_2.toList != ([] : List UInt8)) = false := bne_eq_false_iff_eq.mpr c24
                    clear c24
                    have H' := Aside0.mk H
                    clear H
                    have hcz25_0 : wc.cell? ⟨gb232, 0, none⟩ = some (.int .i64 a0_0) := (blk_cell BK232.out 0).trans rfl
                    have hcz25_1 : wc.cell? ⟨gb232, 1, none⟩ = some (.string a0_1) := (blk_cell BK232.out 1).trans rfl
                    have hcz25_2 : wc.cell? ⟨gb232, 2, none⟩ = some (.string a0_2) := (blk_cell BK232.out 2).trans rfl
                    have hcz25_3 : wc.cell? ⟨gb232, 3, none⟩ = some (.int .i64 a0_3) := (blk_cell BK232.out 3).trans rfl
                    have hcz25_4 : wc.cell? ⟨gb232, 4, none⟩ = some (.int .i64 a0_4) := (blk_cell BK232.out 4).trans rfl
                    have hcz25_5 : wc.cell? ⟨gb232, 5, none⟩ = some (.string a0_5) := (blk_cell BK232.out 5).trans rfl
                    have hfz25_0 := blk_frozen BK232.out 0
                    have hfz25_1 := blk_frozen BK232.out 1
                    have hfz25_2 := blk_frozen BK232.out 2
                    have hfz25_3 := blk_frozen BK232.out 3
                    have hfz25_4 := blk_frozen BK232.out 4
                    have hfz25_5 := blk_frozen BK232.out 5
                    go_wp2
                    go_meet
                    case rel => exact ⟨_, (true), (by first | rfl | (simp; done) | (simp [*]; done)), H', ⟨by have := HJ2.out; first | omega | exact Nat.le_refl _⟩, ⟨by (with_reducible repeat (first | refine blk_drewN ?_ _ | refine blk_drew ?_ | refine blk_alloc ?_ _)); exact BK232.out⟩, ⟨by repeat (first | (with_reducible first | exact HB.out | apply below_alloc | apply pw_below_drewN | apply below_drew1 | refine below_set ?_ GE232.out) | exact HB.out)⟩⟩
                  · rw [if_neg c24] at H
                    have c24b0 : (a0_2.toList == ([] : List UInt8)) = false := beq_eq_false_iff_ne.mpr c24
                    have c24b1 : (a0_2.toList != ([] : List UInt8)) = true := bne_iff_ne.mpr c24
                    have H' := Aside0.mk H
                    clear H
                    have hcz26_0 : wc.cell? ⟨gb232, 0, none⟩ = some (.int .i64 a0_0) := (blk_cell BK232.out 0).trans rfl
                    have hcz26_1 : wc.cell? ⟨gb232, 1, none⟩ = some (.string a0_1) := (blk_cell BK232.out 1).trans rfl
                    have hcz26_2 : wc.cell? ⟨gb232, 2, none⟩ = some (.string a0_2) := (blk_cell BK232.out 2).trans rfl
                    have hcz26_3 : wc.cell? ⟨gb232, 3, none⟩ = some (.int .i64 a0_3) := (blk_cell BK232.out 3).trans rfl
                    have hcz26_4 : wc.cell? ⟨gb232, 4, none⟩ = some (.int .i64 a0_4) := (blk_cell BK232.out 4).trans rfl
                    have hcz26_5 : wc.cell? ⟨gb232, 5, none⟩ = some (.string a0_5) := (blk_cell BK232.out 5).trans rfl
                    have hfz26_0 := blk_frozen BK232.out 0
                    have hfz26_1 := blk_frozen BK232.out 1
                    have hfz26_2 := blk_frozen BK232.out 2
                    have hfz26_3 := blk_frozen BK232.out 3
                    have hfz26_4 := blk_frozen BK232.out 4
                    have hfz26_5 := blk_frozen BK232.out 5
                    go_wp2
                    go_meet
                    case rel => exact ⟨_, (decide ((a0_2.size : Int) > 200)), (by first | rfl | (simp; done) | (simp [*]; done)), H', ⟨by have := HJ2.out; first | omega | exact Nat.le_refl _⟩, ⟨by (with_reducible repeat (first | refine blk_drewN ?_ _ | refine blk_drew ?_ | refine blk_alloc ?_ _)); exact BK232.out⟩, ⟨by repeat (first | (with_reducible first | exact HB.out | apply below_alloc | apply pw_below_drewN | apply below_drew1 | refine below_set ?_ GE232.out) | exact HB.out)⟩⟩
                · rw [if_neg c23] at H
                  have c23b0 : (a0_5.toList == ([] : List UInt8)) = false := beq_eq_false_iff_ne.mpr c23
                  have c23b1 : (a0_5.toList != ([] : List UInt8)) = true := bne_iff_ne.mpr c23
                  have H' := Aside0.mk H
                  clear H
                  have hcz27_0 : wc.cell? ⟨gb232, 0, none⟩ = some (.int .i64 a0_0) := (blk_cell BK232.out 0).trans rfl
                  have hcz27_1 : wc.cell? ⟨gb232, 1, none⟩ = some (.string a0_1) := (blk_cell BK232.out 1).trans rfl
                  have hcz27_2 : wc.cell? ⟨gb232, 2, none⟩ = some (.string a0_2) := (blk_cell BK232.out 2).trans rfl
                  have hcz27_3 : wc.cell? ⟨gb232, 3, none⟩ = some (.int .i64 a0_3) := (blk_cell BK232.out 3).trans rfl
                  have hcz27_4 : wc.cell? ⟨gb232, 4, none⟩ = some (.int .i64 a0_4) := (blk_cell BK232.out 4).trans rfl
                  have hcz27_5 : wc.cell? ⟨gb232, 5, none⟩ = some (.string a0_5) := (blk_cell BK232.out 5).trans rfl
                  have hfz27_0 := blk_frozen BK232.out 0
                  have hfz27_1 := blk_frozen BK232.out 1
                  have hfz27_2 := blk_frozen BK232.out 2
                  have hfz27_3 := blk_frozen BK232.out 3
                  have hfz27_4 := blk_frozen BK232.out 4
                  have hfz27_5 := blk_frozen BK232.out 5
                  go_wp2
                  go_meet
                  case rel => exact ⟨_, (true), (by first | rfl | (simp; done) | (simp [*]; done)), H', ⟨by have := HJ2.out; first | omega | exact Nat.le_refl _⟩, ⟨by (with_reducible repeat (first | refine blk_drewN ?_ _ | refine blk_drew ?_ | refine blk_alloc ?_ _)); exact BK232.out⟩, ⟨by repeat (first | (with_reducible first | exact HB.out | apply below_alloc | apply pw_below_drewN | apply below_drew1 | refine below_set ?_ GE232.out) | exact HB.out)⟩⟩
              · rw [if_neg c22] at H
                have c22b0 : (a0_0 == 3) = false := beq_eq_false_iff_ne.mpr c22
                have c22b1 : (a0_0 != 3) = true := bne_iff_ne.mpr c22
                (first | rw [c22b0] | (simp only [i64_w, i32_w]; rw [c22b0]) | skip)
                have H' := Aside0.mk H
                clear H
                have hcz28_0 : wc.cell? ⟨gb232, 0, none⟩ = some (.int .i64 a0_0) := (blk_cell BK232.out 0).trans rfl
                have hcz28_1 : wc.cell? ⟨gb232, 1, none⟩ = some (.string a0_1) := (blk_cell BK232.out 1).trans rfl
                have hcz28_2 : wc.cell? ⟨gb232, 2, none⟩ = some (.string a0_2) := (blk_cell BK232.out 2).trans rfl
                have hcz28_3 : wc.cell? ⟨gb232, 3, none⟩ = some (.int .i64 a0_3) := (blk_cell BK232.out 3).trans rfl
                have hcz28_4 : wc.cell? ⟨gb232, 4, none⟩ = some (.int .i64 a0_4) := (blk_cell BK232.out 4).trans rfl
                have hcz28_5 : wc.cell? ⟨gb232, 5, none⟩ = some (.string a0_5) := (blk_cell BK232.out 5).trans rfl
                have hfz28_0 := blk_frozen BK232.out 0
                have hfz28_1 := blk_frozen BK232.out 1
                have hfz28_2 := blk_frozen BK232.out 2
                have hfz28_3 := blk_frozen BK232.out 3
                have hfz28_4 := blk_frozen BK232.out 4
                have hfz28_5 := blk_frozen BK232.out 5
                go_wp2
                go_meet
                case rel => exact ⟨_, (true), (by first | rfl | (simp; done) | (simp [*]; done)), H', ⟨by have := HJ2.out; first | omega | exact Nat.le_refl _⟩, ⟨by (with_reducible repeat (first | refine blk_drewN ?_ _ | refine blk_drew ?_ | refine blk_alloc ?_ _)); exact BK232.out⟩, ⟨by repeat (first | (with_reducible first | exact HB.out | apply below_alloc | apply pw_below_drewN | apply below_drew1 | refine below_set ?_ GE232.out) | exact HB.out)⟩⟩
            case rest =>
              clear HC20
              try clear c1
              try clear c2
              try clear p2
              try clear c4
              try clear c7
              try clear c7b0
              try clear c7b1
              try clear c8
              try clear c8b0
              try clear c8b1
              try clear c9
              try clear c9b0
              try clear c13
              try clear c14
              try clear c14b0
              try clear c14b1
              try clear c16
              try clear c16b0
              try clear c16b1
              try clear c17
              try clear c17b0
              try clear c17b1
              try clear c22
              try clear c22b0
              try clear c22b1
              try clear c23
              try clear c23b0
              try clear c23b1
              try clear c24
              try clear c24b0
              try clear c24b1
              try clear hcz10_0
              try clear hcz10_1
              try clear hcz10_2
              try clear hcz10_3
              try clear hcz10_4
              try clear hcz10_5
              try clear hcz11_0
              try clear hcz11_1
              try clear hcz11_2
              try clear hcz11_3
              try clear hcz11_4
              try clear hcz11_5
              try clear hcz12_0
              try clear hcz12_1
              try clear hcz12_2
              try clear hcz12_3
              try clear hcz12_4
              try clear hcz12_5
              try clear hcz15_0
              try clear hcz15_1
              try clear hcz15_2
              try clear hcz15_3
              try clear hcz15_4
              try clear hcz15_5
              try clear hcz18_0
              try clear hcz18_1
              try clear hcz18_2
              try clear hcz18_3
              try clear hcz18_4
              try clear hcz18_5
              try clear hcz19_0
              try clear hcz19_1
              try clear hcz19_2
              try clear hcz19_3
              try clear hcz19_4
              try clear hcz19_5
              try clear hcz21_0
              try clear hcz21_1
              try clear hcz21_2
              try clear hcz21_3
              try clear hcz21_4
              try clear hcz21_5
              try clear hcz25_0
              try clear hcz25_1
              try clear hcz25_2
              try clear hcz25_3
              try clear hcz25_4
              try clear hcz25_5
              try clear hcz26_0
              try clear hcz26_1
              try clear hcz26_2
              try clear hcz26_3
              try clear hcz26_4
              try clear hcz26_5
              try clear hcz27_0
              try clear hcz27_1
              try clear hcz27_2
              try clear hcz27_3
              try clear hcz27_4
              try clear hcz27_5
              try clear hcz28_0
              try clear hcz28_1
              try clear hcz28_2
              try clear hcz28_3
              try clear hcz28_4
              try clear hcz28_5
              try clear hcz5_0
              try clear hcz5_1
              try clear hcz5_2
              try clear hcz5_3
              try clear hcz5_4
              try clear hcz5_5
              try clear hfz10_0
              try clear hfz10_1
              try clear hfz10_2
              try clear hfz10_3
              try clear hfz10_4
              try clear hfz10_5
              try clear hfz11_0
              try clear hfz11_1
              try clear hfz11_2
              try clear hfz11_3
              try clear hfz11_4
              try clear hfz11_5
              try clear hfz12_0
              try clear hfz12_1
              try clear hfz12_2
              try clear hfz12_3
              try clear hfz12_4
              try clear hfz12_5
              try clear hfz15_0
              try clear hfz15_1
              try clear hfz15_2
              try clear hfz15_3
              try clear hfz15_4
              try clear hfz15_5
              try clear hfz18_0
              try clear hfz18_1
              try clear hfz18_2
              try clear hfz18_3
              try clear hfz18_4
              try clear hfz18_5
              try clear hfz19_0
              try clear hfz19_1
              try clear hfz19_2
              try clear hfz19_3
              try clear hfz19_4
              try clear hfz19_5
              try clear hfz21_0
              try clear hfz21_1
              try clear hfz21_2
              try clear hfz21_3
              try clear hfz21_4
              try clear hfz21_5
              try clear hfz25_0
              try clear hfz25_1
              try clear hfz25_2
              try clear hfz25_3
              try clear hfz25_4
              try clear hfz25_5
              try clear hfz26_0
              try clear hfz26_1
              try clear hfz26_2
              try clear hfz26_3
              try clear hfz26_4
              try clear hfz26_5
              try clear hfz27_0
              try clear hfz27_1
              try clear hfz27_2
              try clear hfz27_3
              try clear hfz27_4
              try clear hfz27_5
              try clear hfz28_0
              try clear hfz28_1
              try clear hfz28_2
              try clear hfz28_3
              try clear hfz28_4
              try clear hfz28_5
              try clear hfz5_0
              try clear hfz5_1
              try clear hfz5_2
              try clear hfz5_3
              try clear hfz5_4
              try clear hfz5_5
              try clear p2
              obtain ⟨kq, x65_19, rfl, HA, HJ19, BK232, HB⟩ := hcut
              cases kq with
              | zero => exact absurd HA.out (by simp [wainloadref16_right.j1])
              | succ kj19 =>
                have H := HA.out
                clear HA
                simp only [wainloadref16_right.j1] at H
                by_cases c29 : x65_19 = true
                · subst c29
                  have H1 : (some false) = some r := by rw [if_pos rfl] at H; exact H
                  clear H
                  have H := H1
                  clear H1
                  obtain rfl := Option.some.inj H
                  go_wp2
                  go_ret
                  exact ⟨by first | rfl | (simp [errW_none, errW_some] <;> rfl) | (simp [*, errW_none, errW_some] <;> rfl), by repeat (first | (with_reducible first | exact HB.out | apply below_alloc | apply pw_below_drewN | apply below_drew1 | refine below_set ?_ GE232.out) | exact HB.out)⟩
                · replace c29 := Bool.eq_false_iff.mpr c29
                  subst c29
                  have H1 : (wainloadref16_right.l0 kj19 0 a0_0 a0_1 a0_2 a0_3 a0_4 a0_5) = some r := by rw [if_neg (show ¬ (false = true) by decide)] at H; exact H
                  clear H
                  have H := H1
                  clear H1
                  have H' := Aside0.mk H
                  clear H
                  go_wp2
                  go_loopg [5] kj19 (fun kq v5 w' => ∃ (x5_3 : Int), v5 = .int .i64 x5_3 ∧ Aside0 (wainloadref16_right.l0 kq x5_3 a0_0 a0_1 a0_2 a0_3 a0_4 a0_5 = some r) ∧ Aside0 (kq ≤ kj19) ∧ Aside0 (w'.heap[gb232]? = some (.cells #[.int .i64 a0_0, .string a0_1, .string a0_2, .int .i64 a0_3, .int .i64 a0_4, .string a0_5] 44 (0, 0))) ∧ Aside0 (Below w.heap.size w w'))
                  case atStart => exact ⟨(0), (by first | rfl | (simp; done) | (simp [*]; done)), H', ⟨Nat.le_refl _⟩, ⟨by (with_reducible repeat (first | refine blk_drewN ?_ _ | refine blk_drew ?_ | refine blk_alloc ?_ _)); exact BK232.out⟩, ⟨by repeat (first | (with_reducible first | exact HB.out | apply below_alloc | apply pw_below_drewN | apply below_drew1 | refine below_set ?_ GE232.out) | exact HB.out)⟩⟩
                  case round =>
                    clear H'
                    try clear c1
                    try clear c2
                    try clear p2
                    try clear c4
                    try clear c7
                    try clear c7b0
                    try clear c7b1
                    try clear c8
                    try clear c8b0
                    try clear c8b1
                    try clear c9
                    try clear c9b0
                    try clear c13
                    try clear c14
                    try clear c14b0
                    try clear c14b1
                    try clear c16
                    try clear c16b0
                    try clear c16b1
                    try clear c17
                    try clear c17b0
                    try clear c17b1
                    try clear c22
                    try clear c22b0
                    try clear c22b1
                    try clear c23
                    try clear c23b0
                    try clear c23b1
                    try clear c24
                    try clear c24b0
                    try clear c24b1
                    try clear c29
                    try clear hcz10_0
                    try clear hcz10_1
                    try clear hcz10_2
                    try clear hcz10_3
                    try clear hcz10_4
                    try clear hcz10_5
                    try clear hcz11_0
                    try clear hcz11_1
                    try clear hcz11_2
                    try clear hcz11_3
                    try clear hcz11_4
                    try clear hcz11_5
                    try clear hcz12_0
                    try clear hcz12_1
                    try clear hcz12_2
                    try clear hcz12_3
                    try clear hcz12_4
                    try clear hcz12_5
                    try clear hcz15_0
                    try clear hcz15_1
                    try clear hcz15_2
                    try clear hcz15_3
                    try clear hcz15_4
                    try clear hcz15_5
                    try clear hcz18_0
                    try clear hcz18_1
                    try clear hcz18_2
                    try clear hcz18_3
                    try clear hcz18_4
                    try clear hcz18_5
                    try clear hcz19_0
                    try clear hcz19_1
                    try clear hcz19_2
                    try clear hcz19_3
                    try clear hcz19_4
                    try clear hcz19_5
                    try clear hcz21_0
                    try clear hcz21_1
                    try clear hcz21_2
                    try clear hcz21_3
                    try clear hcz21_4
                    try clear hcz21_5
                    try clear hcz25_0
                    try clear hcz25_1
                    try clear hcz25_2
                    try clear hcz25_3
                    try clear hcz25_4
                    try clear hcz25_5
                    try clear hcz26_0
                    try clear hcz26_1
                    try clear hcz26_2
                    try clear hcz26_3
                    try clear hcz26_4
                    try clear hcz26_5
                    try clear hcz27_0
                    try clear hcz27_1
                    try clear hcz27_2
                    try clear hcz27_3
                    try clear hcz27_4
                    try clear hcz27_5
                    try clear hcz28_0
                    try clear hcz28_1
                    try clear hcz28_2
                    try clear hcz28_3
                    try clear hcz28_4
                    try clear hcz28_5
                    try clear hcz5_0
                    try clear hcz5_1
                    try clear hcz5_2
                    try clear hcz5_3
                    try clear hcz5_4
                    try clear hcz5_5
                    try clear hfz10_0
                    try clear hfz10_1
                    try clear hfz10_2
                    try clear hfz10_3
                    try clear hfz10_4
                    try clear hfz10_5
                    try clear hfz11_0
                    try clear hfz11_1
                    try clear hfz11_2
                    try clear hfz11_3
                    try clear hfz11_4
                    try clear hfz11_5
                    try clear hfz12_0
                    try clear hfz12_1
                    try clear hfz12_2
                    try clear hfz12_3
                    try clear hfz12_4
                    try clear hfz12_5
                    try clear hfz15_0
                    try clear hfz15_1
                    try clear hfz15_2
                    try clear hfz15_3
                    try clear hfz15_4
                    try clear hfz15_5
                    try clear hfz18_0
                    try clear hfz18_1
                    try clear hfz18_2
                    try clear hfz18_3
                    try clear hfz18_4
                    try clear hfz18_5
                    try clear hfz19_0
                    try clear hfz19_1
                    try clear hfz19_2
                    try clear hfz19_3
                    try clear hfz19_4
                    try clear hfz19_5
                    try clear hfz21_0
                    try clear hfz21_1
                    try clear hfz21_2
                    try clear hfz21_3
                    try clear hfz21_4
                    try clear hfz21_5
                    try clear hfz25_0
                    try clear hfz25_1
                    try clear hfz25_2
                    try clear hfz25_3
                    try clear hfz25_4
                    try clear hfz25_5
                    try clear hfz26_0
                    try clear hfz26_1
                    try clear hfz26_2
                    try clear hfz26_3
                    try clear hfz26_4
                    try clear hfz26_5
                    try clear hfz27_0
                    try clear hfz27_1
                    try clear hfz27_2
                    try clear hfz27_3
                    try clear hfz27_4
                    try clear hfz27_5
                    try clear hfz28_0
                    try clear hfz28_1
                    try clear hfz28_2
                    try clear hfz28_3
                    try clear hfz28_4
                    try clear hfz28_5
                    try clear hfz5_0
                    try clear hfz5_1
                    try clear hfz5_2
                    try clear hfz5_3
                    try clear hfz5_4
                    try clear hfz5_5
                    try clear p2
                    obtain ⟨x5_3, rfl, HA, HK3, BK232, HB⟩ := hrel
                    cases gk with
                    | zero => exact absurd HA.out (by simp [wainloadref16_right.l0])
                    | succ k3 =>
                      have H := HA.out
                      clear HA
                      simp only [wainloadref16_right.l0] at H
                      by_cases c30 : x5_3 < (a0_2.size : Int)
                      · rw [if_pos c30] at H
                        have c30b0 : decide (x5_3 < (a0_2.size : Int)) = true := decide_eq_true c30
                        clear c30
                        by_cases c31 : 0 ≤ x5_3
                        · rw [if_pos c31] at H
                          have c31b0 : decide (0 ≤ x5_3) = true := decide_eq_true c31
                          clear c31
                          by_cases c33 : (bt a0_2 x5_3) = 0
                          · rw [if_pos c33] at H
                            have c33b0 : ((bt a0_2 x5_3) == 0) = true := beq_iff_eq.mpr c33
                            have c33b1 : ((bt a0_2 x5_3) != 0) = false := bne_eq_false_iff_eq.mpr c33
                            clear c33
                            obtain rfl := Option.some.inj H
                            have hcz34_0 : wr.cell? ⟨gb232, 0, none⟩ = some (.int .i64 a0_0) := (blk_cell BK232.out 0).trans rfl
                            have hcz34_1 : wr.cell? ⟨gb232, 1, none⟩ = some (.string a0_1) := (blk_cell BK232.out 1).trans rfl
                            have hcz34_2 : wr.cell? ⟨gb232, 2, none⟩ = some (.string a0_2) := (blk_cell BK232.out 2).trans rfl
                            have hcz34_3 : wr.cell? ⟨gb232, 3, none⟩ = some (.int .i64 a0_3) := (blk_cell BK232.out 3).trans rfl
                            have hcz34_4 : wr.cell? ⟨gb232, 4, none⟩ = some (.int .i64 a0_4) := (blk_cell BK232.out 4).trans rfl
                            have hcz34_5 : wr.cell? ⟨gb232, 5, none⟩ = some (.string a0_5) := (blk_cell BK232.out 5).trans rfl
                            have hfz34_0 := blk_frozen BK232.out 0
                            have hfz34_1 := blk_frozen BK232.out 1
                            have hfz34_2 := blk_frozen BK232.out 2
                            have hfz34_3 := blk_frozen BK232.out 3
                            have hfz34_4 := blk_frozen BK232.out 4
                            have hfz34_5 := blk_frozen BK232.out 5
                            have p32 : 0 ≤ (x5_3 : Int) := of_decide_eq_true (by first | (with_reducible assumption) | assumption)
                            have q32 : x5_3 < (a0_2.size : Int) := of_decide_eq_true (by first | (with_reducible assumption) | assumption)
                            have hx32 := bt_at a0_2 x5_3
                            replace p32 := eq_true p32
                            replace q32 := eq_true q32
                            go_wp2
                            go_ret
                            exact ⟨by first | rfl | (simp [errW_none, errW_some] <;> rfl) | (simp [*, errW_none, errW_some] <;> rfl), by repeat (first | (with_reducible first | exact HB.out | apply below_alloc | apply pw_below_drewN | apply below_drew1 | refine below_set ?_ GE232.out) | exact HB.out)⟩
                          · rw [if_neg c33] at H
                            have c33b0 : ((bt a0_2 x5_3) == 0) = false := beq_eq_false_iff_ne.mpr c33
                            have c33b1 : ((bt a0_2 x5_3) != 0) = true := bne_iff_ne.mpr c33
                            have H' := Aside0.mk H
                            clear H
                            have hcz35_0 : wr.cell? ⟨gb232, 0, none⟩ = some (.int .i64 a0_0) := (blk_cell BK232.out 0).trans rfl
                            have hcz35_1 : wr.cell? ⟨gb232, 1, none⟩ = some (.string a0_1) := (blk_cell BK232.out 1).trans rfl
                            have hcz35_2 : wr.cell? ⟨gb232, 2, none⟩ = some (.string a0_2) := (blk_cell BK232.out 2).trans rfl
                            have hcz35_3 : wr.cell? ⟨gb232, 3, none⟩ = some (.int .i64 a0_3) := (blk_cell BK232.out 3).trans rfl
                            have hcz35_4 : wr.cell? ⟨gb232, 4, none⟩ = some (.int .i64 a0_4) := (blk_cell BK232.out 4).trans rfl
                            have hcz35_5 : wr.cell? ⟨gb232, 5, none⟩ = some (.string a0_5) := (blk_cell BK232.out 5).trans rfl
                            have hfz35_0 := blk_frozen BK232.out 0
                            have hfz35_1 := blk_frozen BK232.out 1
                            have hfz35_2 := blk_frozen BK232.out 2
                            have hfz35_3 := blk_frozen BK232.out 3
                            have hfz35_4 := blk_frozen BK232.out 4
                            have hfz35_5 := blk_frozen BK232.out 5
                            have p32 : 0 ≤ (x5_3 : Int) := of_decide_eq_true (by first | (with_reducible assumption) | assumption)
                            have q32 : x5_3 < (a0_2.size : Int) := of_decide_eq_true (by first | (with_reducible assumption) | assumption)
                            have hx32 := bt_at a0_2 x5_3
                            replace p32 := eq_true p32
                            replace q32 := eq_true q32
                            go_wp2
                            go_roundg k3
                            case measure => have := HJ2.out; have := HJ19.out; have := HK3.out; omega
                            case rel => exact ⟨(wrap64 (x5_3 + 1)), (by first | rfl | (simp; done) | (simp [*]; done)), H', ⟨by have := HJ2.out; have := HJ19.out; have := HK3.out; omega⟩, ⟨by (with_reducible repeat (first | refine blk_drewN ?_ _ | refine blk_drew ?_ | refine blk_alloc ?_ _)); exact BK232.out⟩, ⟨by repeat (first | (with_reducible first | exact HB.out | apply below_alloc | apply pw_below_drewN | apply below_drew1 | refine below_set ?_ GE232.out) | exact HB.out)⟩⟩
                        · rw [if_neg c31] at H
                          exact absurd H (by simp)
                      · rw [if_neg c30] at H
                        have c30b0 : decide (x5_3 < (a0_2.size : Int)) = false := decide_eq_false c30
                        clear c30
                        replace H := Option.bind_eq_some_iff.mp H
                        obtain ⟨t235, A360, H⟩ := H
                        replace H : (some t235) = some r := H
                        have A36 := Aside0.mk A360
                        clear A360
                        obtain rfl := Option.some.inj H
                        have hcz37_0 : wr.cell? ⟨gb232, 0, none⟩ = some (.int .i64 a0_0) := (blk_cell BK232.out 0).trans rfl
                        have hcz37_1 : wr.cell? ⟨gb232, 1, none⟩ = some (.string a0_1) := (blk_cell BK232.out 1).trans rfl
                        have hcz37_2 : wr.cell? ⟨gb232, 2, none⟩ = some (.string a0_2) := (blk_cell BK232.out 2).trans rfl
                        have hcz37_3 : wr.cell? ⟨gb232, 3, none⟩ = some (.int .i64 a0_3) := (blk_cell BK232.out 3).trans rfl
                        have hcz37_4 : wr.cell? ⟨gb232, 4, none⟩ = some (.int .i64 a0_4) := (blk_cell BK232.out 4).trans rfl
                        have hcz37_5 : wr.cell? ⟨gb232, 5, none⟩ = some (.string a0_5) := (blk_cell BK232.out 5).trans rfl
                        have hfz37_0 := blk_frozen BK232.out 0
                        have hfz37_1 := blk_frozen BK232.out 1
                        have hfz37_2 := blk_frozen BK232.out 2
                        have hfz37_3 := blk_frozen BK232.out 3
                        have hfz37_4 := blk_frozen BK232.out 4
                        have hfz37_5 := blk_frozen BK232.out 5
                        go_wp2_with (first | ((with_reducible refine gate_callee (f := 73) rfl ?_); refine goesL_ (some 80) rfl rfl Tryz.func73 (by kernel_rfl) rfl #[.string a0_2] rfl (by (try simp only [List.map_toArray, List.map_cons, List.map_nil]); first | done | rfl | (simp only [List.length_drop, List.length_take]; rfl)) ?_; (with_reducible refine (wainloadref14_Valid.calls k3 a0_2 t235 _ A36.out).mono ?_); rintro e w' ⟨rfl, ⟨nd, rfl⟩⟩; refine ⟨_, rfl, ?_⟩))
                        go_ret
                        exact ⟨by first | rfl | (simp [errW_none, errW_some] <;> rfl) | (simp [*, errW_none, errW_some] <;> rfl), by repeat (first | (with_reducible first | exact HB.out | apply below_alloc | apply pw_below_drewN | apply below_drew1 | refine below_set ?_ GE232.out) | exact HB.out)⟩

end Go.Proofs.YtkmcbpkciakmeaaGreatDoor.PA

namespace Go.Proofs.YtkmcbpkciakmeaaGreatDoor.PA
open Go.RowKit Go.Proofs.YtkmcbpkciakmeaaGreatDoorW.PrintWords Go.Proofs.YtkmcbpkciakmeaaGreatDoorW.PrintLast Go.Proofs.YtkmcbpkciakmeaaGreatDoorW.PrintMore
attribute [local go_sem] max2_int min2_int max_two min_two max_three min_three max_four min_four   -- for this text's walks alone
set_option linter.unusedVariables false
set_option linter.unusedSimpArgs false
attribute [local go_sem high] binOp_string_gtr_lt

/-! ### wainloadref16_Check: function 21 -/
mutual
def wainloadref16_Check.l0 : Nat → List (S44) → Int → Option (Int)
  | 0, _, _ => none
  | k + 1, x0, x3 => if x3 < (x0.length : Int) then (if 0 ≤ x3 then ((wainloadref16_right.f k ((rd_T44 x0 x3).f0) ((rd_T44 x0 x3).f1) ((rd_T44 x0 x3).f2) ((rd_T44 x0 x3).f3) ((rd_T44 x0 x3).f4) ((rd_T44 x0 x3).f5)).bind fun t240 => (if t240 = true then (if (((rd_T44 x0 x3).f5).size : Int) > 1048576 then (some 162) else (if x3 > 0 then (if 0 ≤ (wrap64 (x3 - 1)) then (if (wrap64 (x3 - 1)) < (x0.length : Int) then (wainloadref16_Check.j1 k x0 x3 (((rd_T44 x0 (wrap64 (x3 - 1))).f1).toList == ((rd_T44 x0 x3).f1).toList)) else (none)) else (none)) else (wainloadref16_Check.j1 k x0 x3 false))) else (some 160))) else (none)) else (some 0)
def wainloadref16_Check.j1 : Nat → List (S44) → Int → Bool → Option (Int)
  | 0, _, _, _ => none
  | k + 1, x0, x3, x44 => if x44 = true then (some 161) else (if x3 > 0 then (if 0 ≤ (wrap64 (x3 - 1)) then (if (wrap64 (x3 - 1)) < (x0.length : Int) then (if 0 ≤ x3 then (if x3 < (x0.length : Int) then (wainloadref16_Check.j2 k x0 x3 (Op.bytesLess (((rd_T44 x0 x3).f1).toList) (((rd_T44 x0 (wrap64 (x3 - 1))).f1).toList))) else (none)) else (none)) else (none)) else (none)) else (wainloadref16_Check.j2 k x0 x3 false))
def wainloadref16_Check.j2 : Nat → List (S44) → Int → Bool → Option (Int)
  | 0, _, _, _ => none
  | k + 1, x0, x3, x60 => if x60 = true then (some 160) else (if 0 ≤ x3 then (if x3 < (x0.length : Int) then ((wainloadref14_Parents.f k ((rd_T44 x0 x3).f1)).bind fun t247 => (wainloadref16_Check.l1 k x0 x3 t247 0)) else (none)) else (none))
def wainloadref16_Check.l1 : Nat → List (S44) → Int → List ByteArray → Int → Option (Int)
  | 0, _, _, _, _ => none
  | k + 1, x0, x3, x4, x5 => if x5 < x3 then (wainloadref16_Check.l2 k x0 x3 x4 x5 0) else (wainloadref16_Check.l0 k x0 (wrap64 (x3 + 1)))
def wainloadref16_Check.l2 : Nat → List (S44) → Int → List ByteArray → Int → Int → Option (Int)
  | 0, _, _, _, _, _ => none
  | k + 1, x0, x3, x4, x5, x6 => if x6 < (x4.length : Int) then (if 0 ≤ x6 then (if 0 ≤ x5 then (if x5 < (x0.length : Int) then (if (rdOf ByteArray.empty x4 x6).toList = ((rd_T44 x0 x5).f1).toList then (if ((rd_T44 x0 x5).f0) = 2 then (wainloadref16_Check.l2 k x0 x3 x4 x5 (wrap64 (x6 + 1))) else (some 160)) else (wainloadref16_Check.l2 k x0 x3 x4 x5 (wrap64 (x6 + 1)))) else (none)) else (none)) else (none)) else (wainloadref16_Check.l1 k x0 x3 x4 (wrap64 (x5 + 1)))
end
def wainloadref16_Check.f (k : Nat) (l0 : List (S44)) : Option (Int) := if (l0.length : Int) > 1000 then (some 162) else (wainloadref16_Check.l0 k l0 0)
theorem wainloadref16_Check.mono_l : ∀ k, (∀ y0 y1, LeO (wainloadref16_Check.l0 k y0 y1) (wainloadref16_Check.l0 (k + 1) y0 y1)) ∧ (∀ y0 y1 y2, LeO (wainloadref16_Check.j1 k y0 y1 y2) (wainloadref16_Check.j1 (k + 1) y0 y1 y2)) ∧ (∀ y0 y1 y2, LeO (wainloadref16_Check.j2 k y0 y1 y2) (wainloadref16_Check.j2 (k + 1) y0 y1 y2)) ∧ (∀ y0 y1 y2 y3, LeO (wainloadref16_Check.l1 k y0 y1 y2 y3) (wainloadref16_Check.l1 (k + 1) y0 y1 y2 y3)) ∧ (∀ y0 y1 y2 y3 y4, LeO (wainloadref16_Check.l2 k y0 y1 y2 y3 y4) (wainloadref16_Check.l2 (k + 1) y0 y1 y2 y3 y4))
  | 0 => ⟨fun _ _ r h => by simp [wainloadref16_Check.l0] at h, fun _ _ _ r h => by simp [wainloadref16_Check.j1] at h, fun _ _ _ r h => by simp [wainloadref16_Check.j2] at h, fun _ _ _ _ r h => by simp [wainloadref16_Check.l1] at h, fun _ _ _ _ _ r h => by simp [wainloadref16_Check.l2] at h⟩
  | k + 1 => by
    obtain ⟨ih0, ih1, ih2, ih3, ih4⟩ := wainloadref16_Check.mono_l k
    refine ⟨?_, ?_, ?_, ?_, ?_⟩
    · intro y0 y1
      unfold wainloadref16_Check.l0
      repeat' first
      | (with_reducible exact ih0 _ _)
      | (with_reducible exact ih1 _ _ _)
      | (with_reducible exact ih2 _ _ _)
      | (with_reducible exact ih3 _ _ _ _)
      | (with_reducible exact ih4 _ _ _ _ _)
      | (with_reducible exact wainloadref14_Parents.mono _ _)
      | (with_reducible exact wainloadref16_right.mono _ _ _ _ _ _ _)
      | (with_reducible exact LeO.refl _)
      | (with_reducible exact LeO.none _)
      | (with_reducible refine LeO.ite ?_ ?_)
      | (with_reducible refine LeO.bind ?_ (fun _ => ?_))
      | exact ih0 _ _
      | exact ih1 _ _ _
      | exact ih2 _ _ _
      | exact ih3 _ _ _ _
      | exact ih4 _ _ _ _ _
      | exact wainloadref14_Parents.mono _ _
      | exact wainloadref16_right.mono _ _ _ _ _ _ _
      | exact LeO.none _
      | refine LeO.ite ?_ ?_
      | refine LeO.bind ?_ (fun _ => ?_)
    · intro y0 y1 y2
      unfold wainloadref16_Check.j1
      repeat' first
      | (with_reducible exact ih0 _ _)
      | (with_reducible exact ih1 _ _ _)
      | (with_reducible exact ih2 _ _ _)
      | (with_reducible exact ih3 _ _ _ _)
      | (with_reducible exact ih4 _ _ _ _ _)
      | (with_reducible exact wainloadref14_Parents.mono _ _)
      | (with_reducible exact wainloadref16_right.mono _ _ _ _ _ _ _)
      | (with_reducible exact LeO.refl _)
      | (with_reducible exact LeO.none _)
      | (with_reducible refine LeO.ite ?_ ?_)
      | (with_reducible refine LeO.bind ?_ (fun _ => ?_))
      | exact ih0 _ _
      | exact ih1 _ _ _
      | exact ih2 _ _ _
      | exact ih3 _ _ _ _
      | exact ih4 _ _ _ _ _
      | exact wainloadref14_Parents.mono _ _
      | exact wainloadref16_right.mono _ _ _ _ _ _ _
      | exact LeO.none _
      | refine LeO.ite ?_ ?_
      | refine LeO.bind ?_ (fun _ => ?_)
    · intro y0 y1 y2
      unfold wainloadref16_Check.j2
      repeat' first
      | (with_reducible exact ih0 _ _)
      | (with_reducible exact ih1 _ _ _)
      | (with_reducible exact ih2 _ _ _)
      | (with_reducible exact ih3 _ _ _ _)
      | (with_reducible exact ih4 _ _ _ _ _)
      | (with_reducible exact wainloadref14_Parents.mono _ _)
      | (with_reducible exact wainloadref16_right.mono _ _ _ _ _ _ _)
      | (with_reducible exact LeO.refl _)
      | (with_reducible exact LeO.none _)
      | (with_reducible refine LeO.ite ?_ ?_)
      | (with_reducible refine LeO.bind ?_ (fun _ => ?_))
      | exact ih0 _ _
      | exact ih1 _ _ _
      | exact ih2 _ _ _
      | exact ih3 _ _ _ _
      | exact ih4 _ _ _ _ _
      | exact wainloadref14_Parents.mono _ _
      | exact wainloadref16_right.mono _ _ _ _ _ _ _
      | exact LeO.none _
      | refine LeO.ite ?_ ?_
      | refine LeO.bind ?_ (fun _ => ?_)
    · intro y0 y1 y2 y3
      unfold wainloadref16_Check.l1
      repeat' first
      | (with_reducible exact ih0 _ _)
      | (with_reducible exact ih1 _ _ _)
      | (with_reducible exact ih2 _ _ _)
      | (with_reducible exact ih3 _ _ _ _)
      | (with_reducible exact ih4 _ _ _ _ _)
      | (with_reducible exact wainloadref14_Parents.mono _ _)
      | (with_reducible exact wainloadref16_right.mono _ _ _ _ _ _ _)
      | (with_reducible exact LeO.refl _)
      | (with_reducible exact LeO.none _)
      | (with_reducible refine LeO.ite ?_ ?_)
      | (with_reducible refine LeO.bind ?_ (fun _ => ?_))
      | exact ih0 _ _
      | exact ih1 _ _ _
      | exact ih2 _ _ _
      | exact ih3 _ _ _ _
      | exact ih4 _ _ _ _ _
      | exact wainloadref14_Parents.mono _ _
      | exact wainloadref16_right.mono _ _ _ _ _ _ _
      | exact LeO.none _
      | refine LeO.ite ?_ ?_
      | refine LeO.bind ?_ (fun _ => ?_)
    · intro y0 y1 y2 y3 y4
      unfold wainloadref16_Check.l2
      repeat' first
      | (with_reducible exact ih0 _ _)
      | (with_reducible exact ih1 _ _ _)
      | (with_reducible exact ih2 _ _ _)
      | (with_reducible exact ih3 _ _ _ _)
      | (with_reducible exact ih4 _ _ _ _ _)
      | (with_reducible exact wainloadref14_Parents.mono _ _)
      | (with_reducible exact wainloadref16_right.mono _ _ _ _ _ _ _)
      | (with_reducible exact LeO.refl _)
      | (with_reducible exact LeO.none _)
      | (with_reducible refine LeO.ite ?_ ?_)
      | (with_reducible refine LeO.bind ?_ (fun _ => ?_))
      | exact ih0 _ _
      | exact ih1 _ _ _
      | exact ih2 _ _ _
      | exact ih3 _ _ _ _
      | exact ih4 _ _ _ _ _
      | exact wainloadref14_Parents.mono _ _
      | exact wainloadref16_right.mono _ _ _ _ _ _ _
      | exact LeO.none _
      | refine LeO.ite ?_ ?_
      | refine LeO.bind ?_ (fun _ => ?_)
theorem wainloadref16_Check.mono : ∀ a0 k, LeO (wainloadref16_Check.f k a0) (wainloadref16_Check.f (k + 1) a0) := by
  intro a0 k
  obtain ⟨ih0, ih1, ih2, ih3, ih4⟩ := wainloadref16_Check.mono_l k
  unfold wainloadref16_Check.f
  repeat' first
      | (with_reducible exact ih0 _ _)
      | (with_reducible exact ih1 _ _ _)
      | (with_reducible exact ih2 _ _ _)
      | (with_reducible exact ih3 _ _ _ _)
      | (with_reducible exact ih4 _ _ _ _ _)
      | (with_reducible exact wainloadref14_Parents.mono _ _)
      | (with_reducible exact wainloadref16_right.mono _ _ _ _ _ _ _)
      | (with_reducible exact LeO.refl _)
      | (with_reducible exact LeO.none _)
      | (with_reducible refine LeO.ite ?_ ?_)
      | (with_reducible refine LeO.bind ?_ (fun _ => ?_))
      | exact ih0 _ _
      | exact ih1 _ _ _
      | exact ih2 _ _ _
      | exact ih3 _ _ _ _
      | exact ih4 _ _ _ _ _
      | exact wainloadref14_Parents.mono _ _
      | exact wainloadref16_right.mono _ _ _ _ _ _ _
      | exact LeO.none _
      | refine LeO.ite ?_ ?_
      | refine LeO.bind ?_ (fun _ => ?_)
set_option maxHeartbeats 8000000 in
set_option maxRecDepth 100000 in
theorem wainloadref16_Check.calls (k : Nat) (A0 : Option Addr) (c0 : Nat) (l0 : List (S44)) (r : Int) (w : World) (hr0 : Kd.C k44 w A0 l0.length l0) (hc0 : l0.length ≤ c0) (h : wainloadref16_Check.f k l0 = some r) :
    Calls Tryz.prog 21 #[.slice A0 l0.length c0] w fun e w' => e = .returned (.int .i64 r) ∧ Below w.heap.size w w' := by
  have hu44 := Tryz.underlying44
  have HR0 := Aside0.mk hr0
  have HC0 := Aside0.mk hc0
  clear hr0 hc0
  have HB := Aside0.mk (Below.refl w.heap.size w)
  have H : (if (l0.length : Int) > 1000 then (some 162) else (wainloadref16_Check.l0 k l0 0)) = some r := h
  clear h
  by_cases c2 : (l0.length : Int) > 1000
  · rw [if_pos c2] at H
    have c2b0 : decide (1000 < (l0.length : Int)) = true := decide_eq_true c2
    have c2b1 : decide (1000 < l0.length) = true := decide_eq_true (by omega)
    clear c2
    obtain rfl := Option.some.inj H
    go_enter Tryz.func21, Tryz.ntmps21
    go_wp2
    repeat (go_quiet (fail); try go_wp2)
    go_ret
    exact ⟨by first | rfl | (simp [errW_none, errW_some] <;> rfl) | (simp [*, errW_none, errW_some] <;> rfl), by repeat (first | (with_reducible first | exact HB.out | apply below_alloc | apply pw_below_drewN | apply below_drew1) | exact HB.out)⟩
  · rw [if_neg c2] at H
    have c2b0 : decide (1000 < (l0.length : Int)) = false := decide_eq_false c2
    have c2b1 : decide (1000 < l0.length) = false := decide_eq_false (by omega)
    clear c2
    have H' := Aside0.mk H
    clear H
    go_enter Tryz.func21, Tryz.ntmps21
    go_wp2
    repeat (go_quiet (fail); try go_wp2)
    go_loopg [3] k (fun kq v3 w' => ∃ (x3_1 : Int), v3 = .int .i64 x3_1 ∧ Aside0 (wainloadref16_Check.l0 kq l0 x3_1 = some r) ∧ Aside0 (kq ≤ k) ∧ Aside0 (Below w.heap.size w w'))
    case atStart => exact ⟨(0), (by first | rfl | (simp; done) | (simp [*]; done)), H', ⟨Nat.le_refl _⟩, ⟨by repeat (first | (with_reducible first | exact HB.out | apply below_alloc | apply pw_below_drewN | apply below_drew1) | exact HB.out)⟩⟩
    case round =>
      clear H'
      try clear c2
      try clear c2b0
      try clear c2b1
      try clear p2
      obtain ⟨x3_1, rfl, HA, HK1, HB⟩ := hrel
      cases gk with
      | zero => exact absurd HA.out (by simp [wainloadref16_Check.l0])
      | succ k1 =>
        have H := HA.out
        clear HA
        simp only [wainloadref16_Check.l0] at H
        by_cases c3 : x3_1 < (l0.length : Int)
        · rw [if_pos c3] at H
          have c3b0 : decide (x3_1 < (l0.length : Int)) = true := decide_eq_true c3
          clear c3
          by_cases c4 : 0 ≤ x3_1
          · rw [if_pos c4] at H
            have c4b0 : decide (0 ≤ x3_1) = true := decide_eq_true c4
            clear c4
            replace H := Option.bind_eq_some_iff.mp H
            obtain ⟨t240, A50, H⟩ := H
            replace H : (if t240 = true then (if (((rd_T44 l0 x3_1).f5).size : Int) > 1048576 then (some 162) else (if x3_1 > 0 then (if 0 ≤ (wrap64 (x3_1 - 1)) then (if (wrap64 (x3_1 - 1)) < (l0.length : Int) then (wainloadref16_Check.j1 k1 l0 x3_1 (((rd_T44 l0 (wrap64 (x3_1 - 1))).f1).toList == ((rd_T44 l0 x3_1).f1).toList)) else (none)) else (none)) else (wainloadref16_Check.j1 k1 l0 x3_1 false))) else (some 160)) = some r := H
            have A5 := Aside0.mk A50
            clear A50
            by_cases c6 : t240 = true
            · subst c6
              have H1 : (if (((rd_T44 l0 x3_1).f5).size : Int) > 1048576 then (some 162) else (if x3_1 > 0 then (if 0 ≤ (wrap64 (x3_1 - 1)) then (if (wrap64 (x3_1 - 1)) < (l0.length : Int) then (wainloadref16_Check.j1 k1 l0 x3_1 (((rd_T44 l0 (wrap64 (x3_1 - 1))).f1).toList == ((rd_T44 l0 x3_1).f1).toList)) else (none)) else (none)) else (wainloadref16_Check.j1 k1 l0 x3_1 false))) = some r := by rw [if_pos rfl] at H; exact H
              clear H
              have H := H1
              clear H1
              by_cases c7 : (((rd_T44 l0 x3_1).f5).size : Int) > 1048576
              · rw [if_pos c7] at H
                have c7b0 : decide (1048576 < (((rd_T44 l0 x3_1).f5).size : Int)) = true := decide_eq_true c7
                have c7b1 : decide (1048576 < ((rd_T44 l0 x3_1).f5).size) = true := decide_eq_true (by omega)
                clear c7
                obtain rfl := Option.some.inj H
                have p239 : 0 ≤ (x3_1 : Int) := of_decide_eq_true (by first | (with_reducible assumption) | assumption)
                have q239 : x3_1 < (l0.length : Int) := of_decide_eq_true (by first | (with_reducible assumption) | assumption)
                obtain ⟨ad239, e239, hx239_0, hx239_1, hx239_2, hx239_3, hx239_4, hx239_5⟩ := at_T44 HR0.out x3_1 p239 q239
                cases e239
                replace hx239_0 := (HB.out.cell (World.block_lt_of_cell? w _ hx239_0)).trans hx239_0
                replace hx239_1 := (HB.out.cell (World.block_lt_of_cell? w _ hx239_1)).trans hx239_1
                replace hx239_2 := (HB.out.cell (World.block_lt_of_cell? w _ hx239_2)).trans hx239_2
                replace hx239_3 := (HB.out.cell (World.block_lt_of_cell? w _ hx239_3)).trans hx239_3
                replace hx239_4 := (HB.out.cell (World.block_lt_of_cell? w _ hx239_4)).trans hx239_4
                replace hx239_5 := (HB.out.cell (World.block_lt_of_cell? w _ hx239_5)).trans hx239_5
                replace p239 := eq_true p239
                replace q239 := eq_true q239
                go_wp2_with (first | (go_at_call 40; (with_reducible refine (wainloadref16_right.calls k1 ((rd_T44 l0 x3_1).f0) ((rd_T44 l0 x3_1).f1) ((rd_T44 l0 x3_1).f2) ((rd_T44 l0 x3_1).f3) ((rd_T44 l0 x3_1).f4) ((rd_T44 l0 x3_1).f5) true _ A5.out).mono ?_); rintro e w8 ⟨rfl, hb⟩; have n0_ := Aside0.mk (below_step (by repeat (first | (with_reducible first | exact HB.out | apply below_alloc | apply pw_below_drewN | apply below_drew1) | exact HB.out)) hb); clear HB; have HB := n0_; clear n0_; (try clear hb); (try clear hb2); (try clear hk); (try clear hi); have p241 : 0 ≤ (x3_1 : Int) := of_decide_eq_true (by first | (with_reducible assumption) | assumption); have q241 : x3_1 < (l0.length : Int) := of_decide_eq_true (by first | (with_reducible assumption) | assumption); obtain ⟨ad241, e241, hx241_0, hx241_1, hx241_2, hx241_3, hx241_4, hx241_5⟩ := at_T44 HR0.out x3_1 p241 q241; obtain rfl : ad239 = ad241 := (by injection e241); replace hx241_0 := (HB.out.cell (World.block_lt_of_cell? w _ hx241_0)).trans hx241_0; replace hx241_1 := (HB.out.cell (World.block_lt_of_cell? w _ hx241_1)).trans hx241_1; replace hx241_2 := (HB.out.cell (World.block_lt_of_cell? w _ hx241_2)).trans hx241_2; replace hx241_3 := (HB.out.cell (World.block_lt_of_cell? w _ hx241_3)).trans hx241_3; replace hx241_4 := (HB.out.cell (World.block_lt_of_cell? w _ hx241_4)).trans hx241_4; replace hx241_5 := (HB.out.cell (World.block_lt_of_cell? w _ hx241_5)).trans hx241_5; replace p241 := eq_true p241; replace q241 := eq_true q241))
                repeat (go_quiet (first | (go_at_call 40; (with_reducible refine (wainloadref16_right.calls k1 ((rd_T44 l0 x3_1).f0) ((rd_T44 l0 x3_1).f1) ((rd_T44 l0 x3_1).f2) ((rd_T44 l0 x3_1).f3) ((rd_T44 l0 x3_1).f4) ((rd_T44 l0 x3_1).f5) true _ A5.out).mono ?_); rintro e w8 ⟨rfl, hb⟩; have n0_ := Aside0.mk (below_step (by repeat (first | (with_reducible first | exact HB.out | apply below_alloc | apply pw_below_drewN | apply below_drew1) | exact HB.out)) hb); clear HB; have HB := n0_; clear n0_; (try clear hb); (try clear hb2); (try clear hk); (try clear hi); have p241 : 0 ≤ (x3_1 : Int) := of_decide_eq_true (by first | (with_reducible assumption) | assumption); have q241 : x3_1 < (l0.length : Int) := of_decide_eq_true (by first | (with_reducible assumption) | assumption); obtain ⟨ad241, e241, hx241_0, hx241_1, hx241_2, hx241_3, hx241_4, hx241_5⟩ := at_T44 HR0.out x3_1 p241 q241; obtain rfl : ad239 = ad241 := (by injection e241); replace hx241_0 := (HB.out.cell (World.block_lt_of_cell? w _ hx241_0)).trans hx241_0; replace hx241_1 := (HB.out.cell (World.block_lt_of_cell? w _ hx241_1)).trans hx241_1; replace hx241_2 := (HB.out.cell (World.block_lt_of_cell? w _ hx241_2)).trans hx241_2; replace hx241_3 := (HB.out.cell (World.block_lt_of_cell? w _ hx241_3)).trans hx241_3; replace hx241_4 := (HB.out.cell (World.block_lt_of_cell? w _ hx241_4)).trans hx241_4; replace hx241_5 := (HB.out.cell (World.block_lt_of_cell? w _ hx241_5)).trans hx241_5; replace p241 := eq_true p241; replace q241 := eq_true q241)); try go_wp2_with (first | (go_at_call 40; (with_reducible refine (wainloadref16_right.calls k1 ((rd_T44 l0 x3_1).f0) ((rd_T44 l0 x3_1).f1) ((rd_T44 l0 x3_1).f2) ((rd_T44 l0 x3_1).f3) ((rd_T44 l0 x3_1).f4) ((rd_T44 l0 x3_1).f5) true _ A5.out).mono ?_); rintro e w8 ⟨rfl, hb⟩; have n0_ := Aside0.mk (below_step (by repeat (first | (with_reducible first | exact HB.out | apply below_alloc | apply pw_below_drewN | apply below_drew1) | exact HB.out)) hb); clear HB; have HB := n0_; clear n0_; (try clear hb); (try clear hb2); (try clear hk); (try clear hi); have p241 : 0 ≤ (x3_1 : Int) := of_decide_eq_true (by first | (with_reducible assumption) | assumption); have q241 : x3_1 < (l0.length : Int) := of_decide_eq_true (by first | (with_reducible assumption) | assumption); obtain ⟨ad241, e241, hx241_0, hx241_1, hx241_2, hx241_3, hx241_4, hx241_5⟩ := at_T44 HR0.out x3_1 p241 q241; obtain rfl : ad239 = ad241 := (by injection e241); replace hx241_0 := (HB.out.cell (World.block_lt_of_cell? w _ hx241_0)).trans hx241_0; replace hx241_1 := (HB.out.cell (World.block_lt_of_cell? w _ hx241_1)).trans hx241_1; replace hx241_2 := (HB.out.cell (World.block_lt_of_cell? w _ hx241_2)).trans hx241_2; replace hx241_3 := (HB.out.cell (World.block_lt_of_cell? w _ hx241_3)).trans hx241_3; replace hx241_4 := (HB.out.cell (World.block_lt_of_cell? w _ hx241_4)).trans hx241_4; replace hx241_5 := (HB.out.cell (World.block_lt_of_cell? w _ hx241_5)).trans hx241_5; replace p241 := eq_true p241; replace q241 := eq_true q241)))
                go_ret
                exact ⟨by first | rfl | (simp [errW_none, errW_some] <;> rfl) | (simp [*, errW_none, errW_some] <;> rfl), by repeat (first | (with_reducible first | exact HB.out | apply below_alloc | apply pw_below_drewN | apply below_drew1) | exact HB.out)⟩
              · rw [if_neg c7] at H
                have c7b0 : decide (1048576 < (((rd_T44 l0 x3_1).f5).size : Int)) = false := decide_eq_false c7
                have c7b1 : decide (1048576 < ((rd_T44 l0 x3_1).f5).size) = false := decide_eq_false (by omega)
                clear c7
                have HC9 := Aside0.mk H
                clear H
                have p239 : 0 ≤ (x3_1 : Int) := of_decide_eq_true (by first | (with_reducible assumption) | assumption)
                have q239 : x3_1 < (l0.length : Int) := of_decide_eq_true (by first | (with_reducible assumption) | assumption)
                obtain ⟨ad239, e239, hx239_0, hx239_1, hx239_2, hx239_3, hx239_4, hx239_5⟩ := at_T44 HR0.out x3_1 p239 q239
                cases e239
                replace hx239_0 := (HB.out.cell (World.block_lt_of_cell? w _ hx239_0)).trans hx239_0
                replace hx239_1 := (HB.out.cell (World.block_lt_of_cell? w _ hx239_1)).trans hx239_1
                replace hx239_2 := (HB.out.cell (World.block_lt_of_cell? w _ hx239_2)).trans hx239_2
                replace hx239_3 := (HB.out.cell (World.block_lt_of_cell? w _ hx239_3)).trans hx239_3
                replace hx239_4 := (HB.out.cell (World.block_lt_of_cell? w _ hx239_4)).trans hx239_4
                replace hx239_5 := (HB.out.cell (World.block_lt_of_cell? w _ hx239_5)).trans hx239_5
                replace p239 := eq_true p239
                replace q239 := eq_true q239
                go_upto_region 10 with (first | (go_at_call 40; (with_reducible refine (wainloadref16_right.calls k1 ((rd_T44 l0 x3_1).f0) ((rd_T44 l0 x3_1).f1) ((rd_T44 l0 x3_1).f2) ((rd_T44 l0 x3_1).f3) ((rd_T44 l0 x3_1).f4) ((rd_T44 l0 x3_1).f5) true _ A5.out).mono ?_); rintro e w10 ⟨rfl, hb⟩; have n0_ := Aside0.mk (below_step (by repeat (first | (with_reducible first | exact HB.out | apply below_alloc | apply pw_below_drewN | apply below_drew1) | exact HB.out)) hb); clear HB; have HB := n0_; clear n0_; (try clear hb); (try clear hb2); (try clear hk); (try clear hi); have p241 : 0 ≤ (x3_1 : Int) := of_decide_eq_true (by first | (with_reducible assumption) | assumption); have q241 : x3_1 < (l0.length : Int) := of_decide_eq_true (by first | (with_reducible assumption) | assumption); obtain ⟨ad241, e241, hx241_0, hx241_1, hx241_2, hx241_3, hx241_4, hx241_5⟩ := at_T44 HR0.out x3_1 p241 q241; obtain rfl : ad239 = ad241 := (by injection e241); replace hx241_0 := (HB.out.cell (World.block_lt_of_cell? w _ hx241_0)).trans hx241_0; replace hx241_1 := (HB.out.cell (World.block_lt_of_cell? w _ hx241_1)).trans hx241_1; replace hx241_2 := (HB.out.cell (World.block_lt_of_cell? w _ hx241_2)).trans hx241_2; replace hx241_3 := (HB.out.cell (World.block_lt_of_cell? w _ hx241_3)).trans hx241_3; replace hx241_4 := (HB.out.cell (World.block_lt_of_cell? w _ hx241_4)).trans hx241_4; replace hx241_5 := (HB.out.cell (World.block_lt_of_cell? w _ hx241_5)).trans hx241_5; replace p241 := eq_true p241; replace q241 := eq_true q241))
                repeat (go_quiet (first | (go_at_call 40; (with_reducible refine (wainloadref16_right.calls k1 ((rd_T44 l0 x3_1).f0) ((rd_T44 l0 x3_1).f1) ((rd_T44 l0 x3_1).f2) ((rd_T44 l0 x3_1).f3) ((rd_T44 l0 x3_1).f4) ((rd_T44 l0 x3_1).f5) true _ A5.out).mono ?_); rintro e w10 ⟨rfl, hb⟩; have n0_ := Aside0.mk (below_step (by repeat (first | (with_reducible first | exact HB.out | apply below_alloc | apply pw_below_drewN | apply below_drew1) | exact HB.out)) hb); clear HB; have HB := n0_; clear n0_; (try clear hb); (try clear hb2); (try clear hk); (try clear hi); have p241 : 0 ≤ (x3_1 : Int) := of_decide_eq_true (by first | (with_reducible assumption) | assumption); have q241 : x3_1 < (l0.length : Int) := of_decide_eq_true (by first | (with_reducible assumption) | assumption); obtain ⟨ad241, e241, hx241_0, hx241_1, hx241_2, hx241_3, hx241_4, hx241_5⟩ := at_T44 HR0.out x3_1 p241 q241; obtain rfl : ad239 = ad241 := (by injection e241); replace hx241_0 := (HB.out.cell (World.block_lt_of_cell? w _ hx241_0)).trans hx241_0; replace hx241_1 := (HB.out.cell (World.block_lt_of_cell? w _ hx241_1)).trans hx241_1; replace hx241_2 := (HB.out.cell (World.block_lt_of_cell? w _ hx241_2)).trans hx241_2; replace hx241_3 := (HB.out.cell (World.block_lt_of_cell? w _ hx241_3)).trans hx241_3; replace hx241_4 := (HB.out.cell (World.block_lt_of_cell? w _ hx241_4)).trans hx241_4; replace hx241_5 := (HB.out.cell (World.block_lt_of_cell? w _ hx241_5)).trans hx241_5; replace p241 := eq_true p241; replace q241 := eq_true q241)); go_upto_region 10 with (first | (go_at_call 40; (with_reducible refine (wainloadref16_right.calls k1 ((rd_T44 l0 x3_1).f0) ((rd_T44 l0 x3_1).f1) ((rd_T44 l0 x3_1).f2) ((rd_T44 l0 x3_1).f3) ((rd_T44 l0 x3_1).f4) ((rd_T44 l0 x3_1).f5) true _ A5.out).mono ?_); rintro e w10 ⟨rfl, hb⟩; have n0_ := Aside0.mk (below_step (by repeat (first | (with_reducible first | exact HB.out | apply below_alloc | apply pw_below_drewN | apply below_drew1) | exact HB.out)) hb); clear HB; have HB := n0_; clear n0_; (try clear hb); (try clear hb2); (try clear hk); (try clear hi); have p241 : 0 ≤ (x3_1 : Int) := of_decide_eq_true (by first | (with_reducible assumption) | assumption); have q241 : x3_1 < (l0.length : Int) := of_decide_eq_true (by first | (with_reducible assumption) | assumption); obtain ⟨ad241, e241, hx241_0, hx241_1, hx241_2, hx241_3, hx241_4, hx241_5⟩ := at_T44 HR0.out x3_1 p241 q241; obtain rfl : ad239 = ad241 := (by injection e241); replace hx241_0 := (HB.out.cell (World.block_lt_of_cell? w _ hx241_0)).trans hx241_0; replace hx241_1 := (HB.out.cell (World.block_lt_of_cell? w _ hx241_1)).trans hx241_1; replace hx241_2 := (HB.out.cell (World.block_lt_of_cell? w _ hx241_2)).trans hx241_2; replace hx241_3 := (HB.out.cell (World.block_lt_of_cell? w _ hx241_3)).trans hx241_3; replace hx241_4 := (HB.out.cell (World.block_lt_of_cell? w _ hx241_4)).trans hx241_4; replace hx241_5 := (HB.out.cell (World.block_lt_of_cell? w _ hx241_5)).trans hx241_5; replace p241 := eq_true p241; replace q241 := eq_true q241)))
                (try simp only [Act.put, List.setIfInBounds_toArray, List.set_cons_zero, List.set_cons_succ])
                go_cut [44] (fun v44 wc => ∃ (kq : Nat) (x44_8 : Bool), v44 = .bool x44_8 ∧ Aside0 (wainloadref16_Check.j1 kq l0 x3_1 x44_8 = some r) ∧ Aside0 (kq ≤ k1) ∧ Aside0 (Below w.heap.size w wc))
                case first =>
                  have H := HC9.out
                  clear HC9
                  by_cases c11 : x3_1 > 0
                  · rw [if_pos c11] at H
                    have c11b0 : decide (0 < x3_1) = true := decide_eq_true c11
                    clear c11
                    (first | rw [c11b0] | (simp only [i64_w, i32_w]; rw [c11b0]) | skip)
                    obtain ⟨ji12, hji12⟩ : ∃ j_ : Int, (wrap64 (x3_1 - 1)) = j_ := ⟨_, rfl⟩
                    replace H : (if 0 ≤ (ji12) then (if (ji12) < (l0.length : Int) then (wainloadref16_Check.j1 k1 l0 x3_1 (((rd_T44 l0 (ji12)).f1).toList == ((rd_T44 l0 x3_1).f1).toList)) else (none)) else (none)) = some r := by first | (rw [hji12] at H; exact H) | (simp only [hji12] at H ⊢; exact H)
                    have hji12w : (IntKind.i64.wrap (x3_1 - 1)) = ji12 := (i64_w _).trans hji12
                    by_cases c13 : 0 ≤ (ji12)
                    · rw [if_pos c13] at H
                      have c13b0 : decide (0 ≤ (ji12)) = true := decide_eq_true c13
                      clear c13
                      by_cases c14 : (ji12) < (l0.length : Int)
                      · rw [if_pos c14] at H
                        have c14b0 : decide ((ji12) < (l0.length : Int)) = true := decide_eq_true c14
                        clear c14
                        have H' := Aside0.mk H
                        clear H
                        have p242 : 0 ≤ ((ji12) : Int) := of_decide_eq_true (by first | (with_reducible assumption) | assumption)
                        have q242 : (ji12) < (l0.length : Int) := of_decide_eq_true (by first | (with_reducible assumption) | assumption)
                        obtain ⟨ad242, e242, hx242_0, hx242_1, hx242_2, hx242_3, hx242_4, hx242_5⟩ := at_T44 HR0.out (ji12) p242 q242
                        obtain rfl : ad239 = ad242 := (by injection e242)
                        replace hx242_0 := (HB.out.cell (World.block_lt_of_cell? w _ hx242_0)).trans hx242_0
                        replace hx242_1 := (HB.out.cell (World.block_lt_of_cell? w _ hx242_1)).trans hx242_1
                        replace hx242_2 := (HB.out.cell (World.block_lt_of_cell? w _ hx242_2)).trans hx242_2
                        replace hx242_3 := (HB.out.cell (World.block_lt_of_cell? w _ hx242_3)).trans hx242_3
                        replace hx242_4 := (HB.out.cell (World.block_lt_of_cell? w _ hx242_4)).trans hx242_4
                        replace hx242_5 := (HB.out.cell (World.block_lt_of_cell? w _ hx242_5)).trans hx242_5
                        replace p242 := eq_true p242
                        replace q242 := eq_true q242
                        have p243 : 0 ≤ (x3_1 : Int) := of_decide_eq_true (by first | (with_reducible assumption) | assumption)
                        have q243 : x3_1 < (l0.length : Int) := of_decide_eq_true (by first | (with_reducible assumption) | assumption)
                        obtain ⟨ad243, e243, hx243_0, hx243_1, hx243_2, hx243_3, hx243_4, hx243_5⟩ := at_T44 HR0.out x3_1 p243 q243
                        obtain rfl : ad239 = ad243 := (by injection e243)
                        replace hx243_0 := (HB.out.cell (World.block_lt_of_cell? w _ hx243_0)).trans hx243_0
                        replace hx243_1 := (HB.out.cell (World.block_lt_of_cell? w _ hx243_1)).trans hx243_1
                        replace hx243_2 := (HB.out.cell (World.block_lt_of_cell? w _ hx243_2)).trans hx243_2
                        replace hx243_3 := (HB.out.cell (World.block_lt_of_cell? w _ hx243_3)).trans hx243_3
                        replace hx243_4 := (HB.out.cell (World.block_lt_of_cell? w _ hx243_4)).trans hx243_4
                        replace hx243_5 := (HB.out.cell (World.block_lt_of_cell? w _ hx243_5)).trans hx243_5
                        replace p243 := eq_true p243
                        replace q243 := eq_true q243
                        go_wp2
                        repeat (go_quiet (fail); try go_wp2)
                        go_meet
                        case rel => exact ⟨_, ((((rd_T44 l0 (ji12)).f1).toList == ((rd_T44 l0 x3_1).f1).toList)), (by first | rfl | (simp; done) | (simp only [← hji12] <;> (first | rfl | simp)) | (simp [*]; done)), H', ⟨by have := HK1.out; first | omega | exact Nat.le_refl _⟩, ⟨by repeat (first | (with_reducible first | exact HB.out | apply below_alloc | apply pw_below_drewN | apply below_drew1) | exact HB.out)⟩⟩
                      · rw [if_neg c14] at H
                        exact absurd H (by simp)
                    · rw [if_neg c13] at H
                      exact absurd H (by simp)
                  · rw [if_neg c11] at H
                    have c11b0 : decide (0 < x3_1) = false := decide_eq_false c11
                    clear c11
                    (first | rw [c11b0] | (simp only [i64_w, i32_w]; rw [c11b0]) | skip)
                    have H' := Aside0.mk H
                    clear H
                    go_wp2
                    repeat (go_quiet (fail); try go_wp2)
                    go_meet
                    case rel => exact ⟨_, (false), (by first | rfl | (simp; done) | (simp [*]; done)), H', ⟨by have := HK1.out; first | omega | exact Nat.le_refl _⟩, ⟨by repeat (first | (with_reducible first | exact HB.out | apply below_alloc | apply pw_below_drewN | apply below_drew1) | exact HB.out)⟩⟩
                case rest =>
                  clear HC9
                  try clear c1
                  try clear c2
                  try clear c2b0
                  try clear c2b1
                  try clear p2
                  try clear q2
                  try clear hx2
                  try clear c3
                  try clear c3b0
                  try clear c4
                  try clear c4b0
                  try clear c6
                  try clear p6
                  try clear c7
                  try clear c7b0
                  try clear c7b1
                  try clear c11
                  try clear c11b0
                  try clear c13
                  try clear c13b0
                  try clear c14
                  try clear c14b0
                  try clear hx239_0
                  try clear hx239_1
                  try clear hx239_2
                  try clear hx239_3
                  try clear hx239_4
                  try clear hx239_5
                  try clear hx241_0
                  try clear hx241_1
                  try clear hx241_2
                  try clear hx241_3
                  try clear hx241_4
                  try clear hx241_5
                  try clear hx242_0
                  try clear hx242_1
                  try clear hx242_2
                  try clear hx242_3
                  try clear hx242_4
                  try clear hx242_5
                  try clear hx243_0
                  try clear hx243_1
                  try clear hx243_2
                  try clear hx243_3
                  try clear hx243_4
                  try clear hx243_5
                  try clear p2
                  try clear p239
                  try clear p241
                  try clear p242
                  try clear p243
                  try clear q239
                  try clear q241
                  try clear q242
                  try clear q243
                  obtain ⟨kq, x44_8, rfl, HA, HJ8, HB⟩ := hcut
                  cases kq with
                  | zero => exact absurd HA.out (by simp [wainloadref16_Check.j1])
                  | succ kj8 =>
                    have H := HA.out
                    clear HA
                    simp only [wainloadref16_Check.j1] at H
                    by_cases c15 : x44_8 = true
                    · subst c15
                      have H1 : (some 161) = some r := by rw [if_pos rfl] at H; exact H
                      clear H
                      have H := H1
                      clear H1
                      obtain rfl := Option.some.inj H
                      go_wp2
                      repeat (go_quiet (fail); try go_wp2)
                      go_ret
                      exact ⟨by first | rfl | (simp [errW_none, errW_some] <;> rfl) | (simp [*, errW_none, errW_some] <;> rfl), by repeat (first | (with_reducible first | exact HB.out | apply below_alloc | apply pw_below_drewN | apply below_drew1) | exact HB.out)⟩
                    · replace c15 := Bool.eq_false_iff.mpr c15
                      subst c15
                      have H1 : (if x3_1 > 0 then (if 0 ≤ (wrap64 (x3_1 - 1)) then (if (wrap64 (x3_1 - 1)) < (l0.length : Int) then (if 0 ≤ x3_1 then (if x3_1 < (l0.length : Int) then (wainloadref16_Check.j2 kj8 l0 x3_1 (Op.bytesLess (((rd_T44 l0 x3_1).f1).toList) (((rd_T44 l0 (wrap64 (x3_1 - 1))).f1).toList))) else (none)) else (none)) else (none)) else (none)) else (wainloadref16_Check.j2 kj8 l0 x3_1 false)) = some r := by rw [if_neg (show ¬ (false = true) by decide)] at H; exact H
                      clear H
                      have H := H1
                      clear H1
                      have HC16 := Aside0.mk H
                      clear H
                      go_upto_region 12 with (fail)
                      repeat (go_quiet (fail); go_upto_region 12 with (fail))
                      go_cut [60] (fun v60 wc => ∃ (kq : Nat) (x60_15 : Bool), v60 = .bool x60_15 ∧ Aside0 (wainloadref16_Check.j2 kq l0 x3_1 x60_15 = some r) ∧ Aside0 (kq ≤ kj8) ∧ Aside0 (Below w.heap.size w wc))
                      case first =>
                        have H := HC16.out
                        clear HC16
                        by_cases c17 : x3_1 > 0
                        · rw [if_pos c17] at H
                          have c17b0 : decide (0 < x3_1) = true := decide_eq_true c17
                          clear c17
                          (first | rw [c17b0] | (simp only [i64_w, i32_w]; rw [c17b0]) | skip)
                          obtain ⟨ji18, hji18⟩ : ∃ j_ : Int, (wrap64 (x3_1 - 1)) = j_ := ⟨_, rfl⟩
                          replace H : (if 0 ≤ (ji18) then (if (ji18) < (l0.length : Int) then (if 0 ≤ x3_1 then (if x3_1 < (l0.length : Int) then (wainloadref16_Check.j2 kj8 l0 x3_1 (Op.bytesLess (((rd_T44 l0 x3_1).f1).toList) (((rd_T44 l0 (ji18)).f1).toList))) else (none)) else (none)) else (none)) else (none)) = some r := by first | (rw [hji18] at H; exact H) | (simp only [hji18] at H ⊢; exact H)
                          have hji18w : (IntKind.i64.wrap (x3_1 - 1)) = ji18 := (i64_w _).trans hji18
                          by_cases c19 : 0 ≤ (ji18)
                          · rw [if_pos c19] at H
                            have c19b0 : decide (0 ≤ (ji18)) = true := decide_eq_true c19
                            clear c19
                            by_cases c20 : (ji18) < (l0.length : Int)
                            · rw [if_pos c20] at H
                              have c20b0 : decide ((ji18) < (l0.length : Int)) = true := decide_eq_true c20
                              clear c20
                              by_cases c21 : 0 ≤ x3_1
                              · rw [if_pos c21] at H
                                have c21b0 : decide (0 ≤ x3_1) = true := decide_eq_true c21
                                clear c21
                                by_cases c22 : x3_1 < (l0.length : Int)
                                · rw [if_pos c22] at H
                                  have c22b0 : decide (x3_1 < (l0.length : Int)) = true := decide_eq_true c22
                                  clear c22
                                  have H' := Aside0.mk H
                                  clear H
                                  have p244 : 0 ≤ ((ji18) : Int) := of_decide_eq_true (by first | (with_reducible assumption) | assumption)
                                  have q244 : (ji18) < (l0.length : Int) := of_decide_eq_true (by first | (with_reducible assumption) | assumption)
                                  obtain ⟨ad244, e244, hx244_0, hx244_1, hx244_2, hx244_3, hx244_4, hx244_5⟩ := at_T44 HR0.out (ji18) p244 q244
                                  obtain rfl : ad239 = ad244 := (by injection e244)
                                  replace hx244_0 := (HB.out.cell (World.block_lt_of_cell? w _ hx244_0)).trans hx244_0
                                  replace hx244_1 := (HB.out.cell (World.block_lt_of_cell? w _ hx244_1)).trans hx244_1
                                  replace hx244_2 := (HB.out.cell (World.block_lt_of_cell? w _ hx244_2)).trans hx244_2
                                  replace hx244_3 := (HB.out.cell (World.block_lt_of_cell? w _ hx244_3)).trans hx244_3
                                  replace hx244_4 := (HB.out.cell (World.block_lt_of_cell? w _ hx244_4)).trans hx244_4
                                  replace hx244_5 := (HB.out.cell (World.block_lt_of_cell? w _ hx244_5)).trans hx244_5
                                  replace p244 := eq_true p244
                                  replace q244 := eq_true q244
                                  have p245 : 0 ≤ (x3_1 : Int) := of_decide_eq_true (by first | (with_reducible assumption) | assumption)
                                  have q245 : x3_1 < (l0.length : Int) := of_decide_eq_true (by first | (with_reducible assumption) | assumption)
                                  obtain ⟨ad245, e245, hx245_0, hx245_1, hx245_2, hx245_3, hx245_4, hx245_5⟩ := at_T44 HR0.out x3_1 p245 q245
                                  obtain rfl : ad239 = ad245 := (by injection e245)
                                  replace hx245_0 := (HB.out.cell (World.block_lt_of_cell? w _ hx245_0)).trans hx245_0
                                  replace hx245_1 := (HB.out.cell (World.block_lt_of_cell? w _ hx245_1)).trans hx245_1
                                  replace hx245_2 := (HB.out.cell (World.block_lt_of_cell? w _ hx245_2)).trans hx245_2
                                  replace hx245_3 := (HB.out.cell (World.block_lt_of_cell? w _ hx245_3)).trans hx245_3
                                  replace hx245_4 := (HB.out.cell (World.block_lt_of_cell? w _ hx245_4)).trans hx245_4
                                  replace hx245_5 := (HB.out.cell (World.block_lt_of_cell? w _ hx245_5)).trans hx245_5
                                  replace p245 := eq_true p245
                                  replace q245 := eq_true q245
                                  go_wp2
                                  repeat (go_quiet (fail); try go_wp2)
                                  go_meet
                                  case rel => exact ⟨_, ((Op.bytesLess (((rd_T44 l0 x3_1).f1).toList) (((rd_T44 l0 (ji18)).f1).toList))), (by first | rfl | (simp; done) | (simp only [← hji18] <;> (first | rfl | simp)) | (simp [*]; done)), H', ⟨by have := HK1.out; have := HJ8.out; first | omega | exact Nat.le_refl _⟩, ⟨by repeat (first | (with_reducible first | exact HB.out | apply below_alloc | apply pw_below_drewN | apply below_drew1) | exact HB.out)⟩⟩
                                · rw [if_neg c22] at H
                                  exact absurd H (by simp)
                              · rw [if_neg c21] at H
                                exact absurd H (by simp)
                            · rw [if_neg c20] at H
                              exact absurd H (by simp)
                          · rw [if_neg c19] at H
                            exact absurd H (by simp)
                        · rw [if_neg c17] at H
                          have c17b0 : decide (0 < x3_1) = false := decide_eq_false c17
                          clear c17
                          (first | rw [c17b0] | (simp only [i64_w, i32_w]; rw [c17b0]) | skip)
                          have H' := Aside0.mk H
                          clear H
                          go_wp2
                          repeat (go_quiet (fail); try go_wp2)
                          go_meet
                          case rel => exact ⟨_, (false), (by first | rfl | (simp; done) | (simp [*]; done)), H', ⟨by have := HK1.out; have := HJ8.out; first | omega | exact Nat.le_refl _⟩, ⟨by repeat (first | (with_reducible first | exact HB.out | apply below_alloc | apply pw_below_drewN | apply below_drew1) | exact HB.out)⟩⟩
                      case rest =>
                        clear HC16
                        try clear c1
                        try clear c2
                        try clear c2b0
                        try clear c2b1
                        try clear p2
                        try clear q2
                        try clear hx2
                        try clear c3
                        try clear c3b0
                        try clear c4
                        try clear c4b0
                        try clear c6
                        try clear p6
                        try clear c7
                        try clear c7b0
                        try clear c7b1
                        try clear c11
                        try clear c11b0
                        try clear c13
                        try clear c13b0
                        try clear c14
                        try clear c14b0
                        try clear c15
                        try clear c17
                        try clear c17b0
                        try clear c19
                        try clear c19b0
                        try clear c20
                        try clear c20b0
                        try clear c21
                        try clear c21b0
                        try clear c22
                        try clear c22b0
                        try clear hx239_0
                        try clear hx239_1
                        try clear hx239_2
                        try clear hx239_3
                        try clear hx239_4
                        try clear hx239_5
                        try clear hx241_0
                        try clear hx241_1
                        try clear hx241_2
                        try clear hx241_3
                        try clear hx241_4
                        try clear hx241_5
                        try clear hx242_0
                        try clear hx242_1
                        try clear hx242_2
                        try clear hx242_3
                        try clear hx242_4
                        try clear hx242_5
                        try clear hx243_0
                        try clear hx243_1
                        try clear hx243_2
                        try clear hx243_3
                        try clear hx243_4
                        try clear hx243_5
                        try clear hx244_0
                        try clear hx244_1
                        try clear hx244_2
                        try clear hx244_3
                        try clear hx244_4
                        try clear hx244_5
                        try clear hx245_0
                        try clear hx245_1
                        try clear hx245_2
                        try clear hx245_3
                        try clear hx245_4
                        try clear hx245_5
                        try clear p2
                        try clear p239
                        try clear p241
                        try clear p242
                        try clear p243
                        try clear p244
                        try clear p245
                        try clear p6
                        try clear q2
                        try clear q239
                        try clear q241
                        try clear q242
                        try clear q243
                        try clear q244
                        try clear q245
                        obtain ⟨kq, x60_15, rfl, HA, HJ15, HB⟩ := hcut
                        cases kq with
                        | zero => exact absurd HA.out (by simp [wainloadref16_Check.j2])
                        | succ kj15 =>
                          have H := HA.out
                          clear HA
                          simp only [wainloadref16_Check.j2] at H
                          by_cases c23 : x60_15 = true
                          · subst c23
                            have H1 : (some 160) = some r := by rw [if_pos rfl] at H; exact H
                            clear H
                            have H := H1
                            clear H1
                            obtain rfl := Option.some.inj H
                            go_wp2
                            repeat (go_quiet (fail); try go_wp2)
                            go_ret
                            exact ⟨by first | rfl | (simp [errW_none, errW_some] <;> rfl) | (simp [*, errW_none, errW_some] <;> rfl), by repeat (first | (with_reducible first | exact HB.out | apply below_alloc | apply pw_below_drewN | apply below_drew1) | exact HB.out)⟩
                          · replace c23 := Bool.eq_false_iff.mpr c23
                            subst c23
                            have H1 : (if 0 ≤ x3_1 then (if x3_1 < (l0.length : Int) then ((wainloadref14_Parents.f kj15 ((rd_T44 l0 x3_1).f1)).bind fun t247 => (wainloadref16_Check.l1 kj15 l0 x3_1 t247 0)) else (none)) else (none)) = some r := by rw [if_neg (show ¬ (false = true) by decide)] at H; exact H
                            clear H
                            have H := H1
                            clear H1
                            by_cases c24 : 0 ≤ x3_1
                            · rw [if_pos c24] at H
                              have c24b0 : decide (0 ≤ x3_1) = true := decide_eq_true c24
                              clear c24
                              by_cases c25 : x3_1 < (l0.length : Int)
                              · rw [if_pos c25] at H
                                have c25b0 : decide (x3_1 < (l0.length : Int)) = true := decide_eq_true c25
                                clear c25
                                replace H := Option.bind_eq_some_iff.mp H
                                obtain ⟨t247, A260, H⟩ := H
                                replace H : (wainloadref16_Check.l1 kj15 l0 x3_1 t247 0) = some r := H
                                have A26 := Aside0.mk A260
                                clear A260
                                have H' := Aside0.mk H
                                clear H
                                have p246 : 0 ≤ (x3_1 : Int) := of_decide_eq_true (by first | (with_reducible assumption) | assumption)
                                have q246 : x3_1 < (l0.length : Int) := of_decide_eq_true (by first | (with_reducible assumption) | assumption)
                                obtain ⟨ad246, e246, hx246_0, hx246_1, hx246_2, hx246_3, hx246_4, hx246_5⟩ := at_T44 HR0.out x3_1 p246 q246
                                obtain rfl : ad239 = ad246 := (by injection e246)
                                replace hx246_0 := (HB.out.cell (World.block_lt_of_cell? w _ hx246_0)).trans hx246_0
                                replace hx246_1 := (HB.out.cell (World.block_lt_of_cell? w _ hx246_1)).trans hx246_1
                                replace hx246_2 := (HB.out.cell (World.block_lt_of_cell? w _ hx246_2)).trans hx246_2
                                replace hx246_3 := (HB.out.cell (World.block_lt_of_cell? w _ hx246_3)).trans hx246_3
                                replace hx246_4 := (HB.out.cell (World.block_lt_of_cell? w _ hx246_4)).trans hx246_4
                                replace hx246_5 := (HB.out.cell (World.block_lt_of_cell? w _ hx246_5)).trans hx246_5
                                replace p246 := eq_true p246
                                replace q246 := eq_true q246
                                go_wp2_with (first | (go_at_call 41; (with_reducible refine (wainloadref14_Parents.calls kj15 ((rd_T44 l0 x3_1).f1) t247 _ A26.out).mono ?_); rintro e w27 ⟨v248, rfl, ho0, hb⟩; have n0_ := Aside0.mk (Kd.R_lower ho0 (below_size (by repeat (first | (with_reducible first | exact HB.out | apply below_alloc | apply pw_below_drewN | apply below_drew1) | exact HB.out)))); have n1_ := Aside0.mk (below_step (by repeat (first | (with_reducible first | exact HB.out | apply below_alloc | apply pw_below_drewN | apply below_drew1) | exact HB.out)) hb); clear HB; have HO249 := n0_; have HB := n1_; clear n0_ n1_; (try clear hb); (try clear hb2); (try clear hk); (try clear hi); (try clear ho0)))
                                repeat (go_quiet (first | (go_at_call 41; (with_reducible refine (wainloadref14_Parents.calls kj15 ((rd_T44 l0 x3_1).f1) t247 _ A26.out).mono ?_); rintro e w27 ⟨v248, rfl, ho0, hb⟩; have n0_ := Aside0.mk (Kd.R_lower ho0 (below_size (by repeat (first | (with_reducible first | exact HB.out | apply below_alloc | apply pw_below_drewN | apply below_drew1) | exact HB.out)))); have n1_ := Aside0.mk (below_step (by repeat (first | (with_reducible first | exact HB.out | apply below_alloc | apply pw_below_drewN | apply below_drew1) | exact HB.out)) hb); clear HB; have HO249 := n0_; have HB := n1_; clear n0_ n1_; (try clear hb); (try clear hb2); (try clear hk); (try clear hi); (try clear ho0))); try go_wp2_with (first | (go_at_call 41; (with_reducible refine (wainloadref14_Parents.calls kj15 ((rd_T44 l0 x3_1).f1) t247 _ A26.out).mono ?_); rintro e w27 ⟨v248, rfl, ho0, hb⟩; have n0_ := Aside0.mk (Kd.R_lower ho0 (below_size (by repeat (first | (with_reducible first | exact HB.out | apply below_alloc | apply pw_below_drewN | apply below_drew1) | exact HB.out)))); have n1_ := Aside0.mk (below_step (by repeat (first | (with_reducible first | exact HB.out | apply below_alloc | apply pw_below_drewN | apply below_drew1) | exact HB.out)) hb); clear HB; have HO249 := n0_; have HB := n1_; clear n0_ n1_; (try clear hb); (try clear hb2); (try clear hk); (try clear hi); (try clear ho0))))
                                go_loopg [5] kj15 (fun kq v5 w' => ∃ (x5_4 : Int), v5 = .int .i64 x5_4 ∧ Aside0 (wainloadref16_Check.l1 kq l0 x3_1 t247 x5_4 = some r) ∧ Aside0 (kq ≤ kj15) ∧ Aside0 (Kd.R Kd.string 9 w' w.heap.size (fun _ => True) v248 t247) ∧ Aside0 (Below w.heap.size w w'))
                                case atStart => exact ⟨(0), (by first | rfl | (simp; done) | (simp [*]; done)), H', ⟨Nat.le_refl _⟩, ⟨by (with_reducible repeat (first | apply Kd.R_alloc | apply Kd.R_drewN | apply Kd.R_drew)); exact HO249.out⟩, ⟨by repeat (first | (with_reducible first | exact HB.out | apply below_alloc | apply pw_below_drewN | apply below_drew1) | exact HB.out)⟩⟩
                                case round =>
                                  clear H'
                                  try clear c1
                                  try clear c2
                                  try clear c2b0
                                  try clear c2b1
                                  try clear p2
                                  try clear q2
                                  try clear hx2
                                  try clear c3
                                  try clear c3b0
                                  try clear c4
                                  try clear c4b0
                                  try clear c6
                                  try clear p6
                                  try clear c7
                                  try clear c7b0
                                  try clear c7b1
                                  try clear c11
                                  try clear c11b0
                                  try clear c13
                                  try clear c13b0
                                  try clear c14
                                  try clear c14b0
                                  try clear c15
                                  try clear c17
                                  try clear c17b0
                                  try clear c19
                                  try clear c19b0
                                  try clear c20
                                  try clear c20b0
                                  try clear c21
                                  try clear c21b0
                                  try clear c22
                                  try clear c22b0
                                  try clear c23
                                  try clear p23
                                  try clear q23
                                  try clear hx23
                                  try clear c24
                                  try clear c24b0
                                  try clear p24
                                  try clear q24
                                  try clear hx24
                                  try clear c25
                                  try clear c25b0
                                  try clear hx239_0
                                  try clear hx239_1
                                  try clear hx239_2
                                  try clear hx239_3
                                  try clear hx239_4
                                  try clear hx239_5
                                  try clear hx241_0
                                  try clear hx241_1
                                  try clear hx241_2
                                  try clear hx241_3
                                  try clear hx241_4
                                  try clear hx241_5
                                  try clear hx242_0
                                  try clear hx242_1
                                  try clear hx242_2
                                  try clear hx242_3
                                  try clear hx242_4
                                  try clear hx242_5
                                  try clear hx243_0
                                  try clear hx243_1
                                  try clear hx243_2
                                  try clear hx243_3
                                  try clear hx243_4
                                  try clear hx243_5
                                  try clear hx244_0
                                  try clear hx244_1
                                  try clear hx244_2
                                  try clear hx244_3
                                  try clear hx244_4
                                  try clear hx244_5
                                  try clear hx245_0
                                  try clear hx245_1
                                  try clear hx245_2
                                  try clear hx245_3
                                  try clear hx245_4
                                  try clear hx245_5
                                  try clear hx246_0
                                  try clear hx246_1
                                  try clear hx246_2
                                  try clear hx246_3
                                  try clear hx246_4
                                  try clear hx246_5
                                  try clear p2
                                  try clear p239
                                  try clear p241
                                  try clear p242
                                  try clear p243
                                  try clear p244
                                  try clear p245
                                  try clear p246
                                  try clear p6
                                  try clear q2
                                  try clear q239
                                  try clear q241
                                  try clear q242
                                  try clear q243
                                  try clear q244
                                  try clear q245
                                  try clear q246
                                  obtain ⟨x5_4, rfl, HA, HK4, HO_4, HB⟩ := hrel
                                  cases gk with
                                  | zero => exact absurd HA.out (by simp [wainloadref16_Check.l1])
                                  | succ k4 =>
                                    have H := HA.out
                                    clear HA
                                    simp only [wainloadref16_Check.l1] at H
                                    by_cases c28 : x5_4 < x3_1
                                    · rw [if_pos c28] at H
                                      have c28b0 : decide (x5_4 < x3_1) = true := decide_eq_true c28
                                      clear c28
                                      have H' := Aside0.mk H
                                      clear H
                                      go_wp2
                                      repeat (go_quiet (fail); try go_wp2)
                                      go_loopg [6] k4 (fun kq v6 w' => ∃ (x6_5 : Int), v6 = .int .i64 x6_5 ∧ Aside0 (wainloadref16_Check.l2 kq l0 x3_1 t247 x5_4 x6_5 = some r) ∧ Aside0 (kq ≤ k4) ∧ Aside0 (Kd.R Kd.string 9 w' w.heap.size (fun _ => True) v248 t247) ∧ Aside0 (Below w.heap.size w w'))
                                      case atStart => exact ⟨(0), (by first | rfl | (simp; done) | (simp [*]; done)), H', ⟨Nat.le_refl _⟩, ⟨by (with_reducible repeat (first | apply Kd.R_alloc | apply Kd.R_drewN | apply Kd.R_drew)); exact HO_4.out⟩, ⟨by repeat (first | (with_reducible first | exact HB.out | apply below_alloc | apply pw_below_drewN | apply below_drew1) | exact HB.out)⟩⟩
                                      case round =>
                                        clear H'
                                        try clear c1
                                        try clear c2
                                        try clear c2b0
                                        try clear c2b1
                                        try clear p2
                                        try clear q2
                                        try clear hx2
                                        try clear c3
                                        try clear c3b0
                                        try clear c4
                                        try clear c4b0
                                        try clear c6
                                        try clear p6
                                        try clear c7
                                        try clear c7b0
                                        try clear c7b1
                                        try clear c11
                                        try clear c11b0
                                        try clear c13
                                        try clear c13b0
                                        try clear c14
                                        try clear c14b0
                                        try clear c15
                                        try clear c17
                                        try clear c17b0
                                        try clear c19
                                        try clear c19b0
                                        try clear c20
                                        try clear c20b0
                                        try clear c21
                                        try clear c21b0
                                        try clear c22
                                        try clear c22b0
                                        try clear c23
                                        try clear p23
                                        try clear q23
                                        try clear hx23
                                        try clear c24
                                        try clear c24b0
                                        try clear p24
                                        try clear q24
                                        try clear hx24
                                        try clear c25
                                        try clear c25b0
                                        try clear c28
                                        try clear c28b0
                                        try clear hx239_0
                                        try clear hx239_1
                                        try clear hx239_2
                                        try clear hx239_3
                                        try clear hx239_4
                                        try clear hx239_5
                                        try clear hx241_0
                                        try clear hx241_1
                                        try clear hx241_2
                                        try clear hx241_3
                                        try clear hx241_4
                                        try clear hx241_5
                                        try clear hx242_0
                                        try clear hx242_1
                                        try clear hx242_2
                                        try clear hx242_3
                                        try clear hx242_4
                                        try clear hx242_5
                                        try clear hx243_0
                                        try clear hx243_1
                                        try clear hx243_2
                                        try clear hx243_3
                                        try clear hx243_4
                                        try clear hx243_5
                                        try clear hx244_0
                                        try clear hx244_1
                                        try clear hx244_2
                                        try clear hx244_3
                                        try clear hx244_4
                                        try clear hx244_5
                                        try clear hx245_0
                                        try clear hx245_1
                                        try clear hx245_2
                                        try clear hx245_3
                                        try clear hx245_4
                                        try clear hx245_5
                                        try clear hx246_0
                                        try clear hx246_1
                                        try clear hx246_2
                                        try clear hx246_3
                                        try clear hx246_4
                                        try clear hx246_5
                                        try clear p2
                                        try clear p23
                                        try clear p239
                                        try clear p24
                                        try clear p241
                                        try clear p242
                                        try clear p243
                                        try clear p244
                                        try clear p245
                                        try clear p246
                                        try clear p6
                                        try clear q2
                                        try clear q23
                                        try clear q239
                                        try clear q24
                                        try clear q241
                                        try clear q242
                                        try clear q243
                                        try clear q244
                                        try clear q245
                                        try clear q246
                                        obtain ⟨x6_5, rfl, HA, HK5, HO_4, HB⟩ := hrel
                                        cases gk with
                                        | zero => exact absurd HA.out (by simp [wainloadref16_Check.l2])
                                        | succ k5 =>
                                          have H := HA.out
                                          clear HA
                                          simp only [wainloadref16_Check.l2] at H
                                          by_cases c29 : x6_5 < (t247.length : Int)
                                          · rw [if_pos c29] at H
                                            have c29b0 : decide (x6_5 < (t247.length : Int)) = true := decide_eq_true c29
                                            clear c29
                                            by_cases c30 : 0 ≤ x6_5
                                            · rw [if_pos c30] at H
                                              have c30b0 : decide (0 ≤ x6_5) = true := decide_eq_true c30
                                              clear c30
                                              by_cases c31 : 0 ≤ x5_4
                                              · rw [if_pos c31] at H
                                                have c31b0 : decide (0 ≤ x5_4) = true := decide_eq_true c31
                                                clear c31
                                                by_cases c32 : x5_4 < (l0.length : Int)
                                                · rw [if_pos c32] at H
                                                  have c32b0 : decide (x5_4 < (l0.length : Int)) = true := decide_eq_true c32
                                                  clear c32
                                                  by_cases c33 : (rdOf ByteArray.empty t247 x6_5).toList = ((rd_T44 l0 x5_4).f1).toList
                                                  · rw [if_pos c33] at H
                                                    have c33b0 : ((rdOf ByteArray.empty t247 x6_5).toList == ((rd_T44 l0 x5_4).f1).toList) = true := beq_iff_eq.mpr c33
                                                    have c33b1 : ((rdOf ByteArray.empty t247 x6_5).toList != ((rd_T44 l0 x5_4).f1).toList) = false := bne_eq_false_iff_eq.mpr c33
                                                    clear c33
                                                    by_cases c34 : ((rd_T44 l0 x5_4).f0) = 2
                                                    · rw [if_pos c34] at H
                                                      have c34b0 : (((rd_T44 l0 x5_4).f0) == 2) = true := beq_iff_eq.mpr c34
                                                      have c34b1 : (((rd_T44 l0 x5_4).f0) != 2) = false := bne_eq_false_iff_eq.mpr c34
                                                      clear c34
                                                      have H' := Aside0.mk H
                                                      clear H
                                                      obtain ⟨Ao35, co35, eo35⟩ := Kd.R_slice HO_4.out
                                                      subst eo35
                                                      have p250 : 0 ≤ (x6_5 : Int) := of_decide_eq_true (by first | (with_reducible assumption) | assumption)
                                                      have q250 : x6_5 < (t247.length : Int) := of_decide_eq_true (by first | (with_reducible assumption) | assumption)
                                                      obtain ⟨ad250, e250, hx250_0⟩ := Kd.at_string (Kd.R_reads' HO_4.out).2.2 x6_5 p250 q250
                                                      cases e250
                                                      replace p250 := eq_true p250
                                                      replace q250 := eq_true q250
                                                      have p251 : 0 ≤ (x5_4 : Int) := of_decide_eq_true (by first | (with_reducible assumption) | assumption)
                                                      have q251 : x5_4 < (l0.length : Int) := of_decide_eq_true (by first | (with_reducible assumption) | assumption)
                                                      obtain ⟨ad251, e251, hx251_0, hx251_1, hx251_2, hx251_3, hx251_4, hx251_5⟩ := at_T44 HR0.out x5_4 p251 q251
                                                      obtain rfl : ad239 = ad251 := (by injection e251)
                                                      replace hx251_0 := (HB.out.cell (World.block_lt_of_cell? w _ hx251_0)).trans hx251_0
                                                      replace hx251_1 := (HB.out.cell (World.block_lt_of_cell? w _ hx251_1)).trans hx251_1
                                                      replace hx251_2 := (HB.out.cell (World.block_lt_of_cell? w _ hx251_2)).trans hx251_2
                                                      replace hx251_3 := (HB.out.cell (World.block_lt_of_cell? w _ hx251_3)).trans hx251_3
                                                      replace hx251_4 := (HB.out.cell (World.block_lt_of_cell? w _ hx251_4)).trans hx251_4
                                                      replace hx251_5 := (HB.out.cell (World.block_lt_of_cell? w _ hx251_5)).trans hx251_5
                                                      replace p251 := eq_true p251
                                                      replace q251 := eq_true q251
                                                      have p252 : 0 ≤ (x5_4 : Int) := of_decide_eq_true (by first | (with_reducible assumption) | assumption)
                                                      have q252 : x5_4 < (l0.length : Int) := of_decide_eq_true (by first | (with_reducible assumption) | assumption)
                                                      obtain ⟨ad252, e252, hx252_0, hx252_1, hx252_2, hx252_3, hx252_4, hx252_5⟩ := at_T44 HR0.out x5_4 p252 q252
                                                      obtain rfl : ad239 = ad252 := (by injection e252)
                                                      replace hx252_0 := (HB.out.cell (World.block_lt_of_cell? w _ hx252_0)).trans hx252_0
                                                      replace hx252_1 := (HB.out.cell (World.block_lt_of_cell? w _ hx252_1)).trans hx252_1
                                                      replace hx252_2 := (HB.out.cell (World.block_lt_of_cell? w _ hx252_2)).trans hx252_2
                                                      replace hx252_3 := (HB.out.cell (World.block_lt_of_cell? w _ hx252_3)).trans hx252_3
                                                      replace hx252_4 := (HB.out.cell (World.block_lt_of_cell? w _ hx252_4)).trans hx252_4
                                                      replace hx252_5 := (HB.out.cell (World.block_lt_of_cell? w _ hx252_5)).trans hx252_5
                                                      replace p252 := eq_true p252
                                                      replace q252 := eq_true q252
                                                      go_wp2
                                                      repeat (go_quiet (fail); try go_wp2)
                                                      go_roundg k5
                                                      case measure => have := HK1.out; have := HJ8.out; have := HJ15.out; have := HK4.out; have := HK5.out; omega
                                                      case rel => exact ⟨(wrap64 (x6_5 + 1)), (by first | rfl | (simp; done) | (simp [*]; done)), H', ⟨by have := HK1.out; have := HJ8.out; have := HJ15.out; have := HK4.out; have := HK5.out; omega⟩, ⟨by (with_reducible repeat (first | apply Kd.R_alloc | apply Kd.R_drewN | apply Kd.R_drew)); exact HO_4.out⟩, ⟨by repeat (first | (with_reducible first | exact HB.out | apply below_alloc | apply pw_below_drewN | apply below_drew1) | exact HB.out)⟩⟩
                                                    · rw [if_neg c34] at H
                                                      have c34b0 : (((rd_T44 l0 x5_4).f0) == 2) = false := beq_eq_false_iff_ne.mpr c34
                                                      have c34b1 : (((rd_T44 l0 x5_4).f0) != 2) = true := bne_iff_ne.mpr c34
                                                      obtain rfl := Option.some.inj H
                                                      obtain ⟨Ao36, co36, eo36⟩ := Kd.R_slice HO_4.out
                                                      subst eo36
                                                      have p250 : 0 ≤ (x6_5 : Int) := of_decide_eq_true (by first | (with_reducible assumption) | assumption)
                                                      have q250 : x6_5 < (t247.length : Int) := of_decide_eq_true (by first | (with_reducible assumption) | assumption)
                                                      obtain ⟨ad250, e250, hx250_0⟩ := Kd.at_string (Kd.R_reads' HO_4.out).2.2 x6_5 p250 q250
                                                      cases e250
                                                      replace p250 := eq_true p250
                                                      replace q250 := eq_true q250
                                                      have p251 : 0 ≤ (x5_4 : Int) := of_decide_eq_true (by first | (with_reducible assumption) | assumption)
                                                      have q251 : x5_4 < (l0.length : Int) := of_decide_eq_true (by first | (with_reducible assumption) | assumption)
                                                      obtain ⟨ad251, e251, hx251_0, hx251_1, hx251_2, hx251_3, hx251_4, hx251_5⟩ := at_T44 HR0.out x5_4 p251 q251
                                                      obtain rfl : ad239 = ad251 := (by injection e251)
                                                      replace hx251_0 := (HB.out.cell (World.block_lt_of_cell? w _ hx251_0)).trans hx251_0
                                                      replace hx251_1 := (HB.out.cell (World.block_lt_of_cell? w _ hx251_1)).trans hx251_1
                                                      replace hx251_2 := (HB.out.cell (World.block_lt_of_cell? w _ hx251_2)).trans hx251_2
                                                      replace hx251_3 := (HB.out.cell (World.block_lt_of_cell? w _ hx251_3)).trans hx251_3
                                                      replace hx251_4 := (HB.out.cell (World.block_lt_of_cell? w _ hx251_4)).trans hx251_4
                                                      replace hx251_5 := (HB.out.cell (World.block_lt_of_cell? w _ hx251_5)).trans hx251_5
                                                      replace p251 := eq_true p251
                                                      replace q251 := eq_true q251
                                                      have p252 : 0 ≤ (x5_4 : Int) := of_decide_eq_true (by first | (with_reducible assumption) | assumption)
                                                      have q252 : x5_4 < (l0.length : Int) := of_decide_eq_true (by first | (with_reducible assumption) | assumption)
                                                      obtain ⟨ad252, e252, hx252_0, hx252_1, hx252_2, hx252_3, hx252_4, hx252_5⟩ := at_T44 HR0.out x5_4 p252 q252
                                                      obtain rfl : ad239 = ad252 := (by injection e252)
                                                      replace hx252_0 := (HB.out.cell (World.block_lt_of_cell? w _ hx252_0)).trans hx252_0
                                                      replace hx252_1 := (HB.out.cell (World.block_lt_of_cell? w _ hx252_1)).trans hx252_1
                                                      replace hx252_2 := (HB.out.cell (World.block_lt_of_cell? w _ hx252_2)).trans hx252_2
                                                      replace hx252_3 := (HB.out.cell (World.block_lt_of_cell? w _ hx252_3)).trans hx252_3
                                                      replace hx252_4 := (HB.out.cell (World.block_lt_of_cell? w _ hx252_4)).trans hx252_4
                                                      replace hx252_5 := (HB.out.cell (World.block_lt_of_cell? w _ hx252_5)).trans hx252_5
                                                      replace p252 := eq_true p252
                                                      replace q252 := eq_true q252
                                                      go_wp2
                                                      repeat (go_quiet (fail); try go_wp2)
                                                      go_ret
                                                      exact ⟨by first | rfl | (simp [errW_none, errW_some] <;> rfl) | (simp [*, errW_none, errW_some] <;> rfl), by repeat (first | (with_reducible first | exact HB.out | apply below_alloc | apply pw_below_drewN | apply below_drew1) | exact HB.out)⟩
                                                  · rw [if_neg c33] at H
                                                    have c33b0 : ((rdOf ByteArray.empty t247 x6_5).toList == ((rd_T44 l0 x5_4).f1).toList) = false := beq_eq_false_iff_ne.mpr c33
                                                    have c33b1 : ((rdOf ByteArray.empty t247 x6_5).toList != ((rd_T44 l0 x5_4).f1).toList) = true := bne_iff_ne.mpr c33
                                                    have H' := Aside0.mk H
                                                    clear H
                                                    obtain ⟨Ao37, co37, eo37⟩ := Kd.R_slice HO_4.out
                                                    subst eo37
                                                    have p250 : 0 ≤ (x6_5 : Int) := of_decide_eq_true (by first | (with_reducible assumption) | assumption)
                                                    have q250 : x6_5 < (t247.length : Int) := of_decide_eq_true (by first | (with_reducible assumption) | assumption)
                                                    obtain ⟨ad250, e250, hx250_0⟩ := Kd.at_string (Kd.R_reads' HO_4.out).2.2 x6_5 p250 q250
                                                    cases e250
                                                    replace p250 := eq_true p250
                                                    replace q250 := eq_true q250
                                                    have p251 : 0 ≤ (x5_4 : Int) := of_decide_eq_true (by first | (with_reducible assumption) | assumption)
                                                    have q251 : x5_4 < (l0.length : Int) := of_decide_eq_true (by first | (with_reducible assumption) | assumption)
                                                    obtain ⟨ad251, e251, hx251_0, hx251_1, hx251_2, hx251_3, hx251_4, hx251_5⟩ := at_T44 HR0.out x5_4 p251 q251
                                                    obtain rfl : ad239 = ad251 := (by injection e251)
                                                    replace hx251_0 := (HB.out.cell (World.block_lt_of_cell? w _ hx251_0)).trans hx251_0
                                                    replace hx251_1 := (HB.out.cell (World.block_lt_of_cell? w _ hx251_1)).trans hx251_1
                                                    replace hx251_2 := (HB.out.cell (World.block_lt_of_cell? w _ hx251_2)).trans hx251_2
                                                    replace hx251_3 := (HB.out.cell (World.block_lt_of_cell? w _ hx251_3)).trans hx251_3
                                                    replace hx251_4 := (HB.out.cell (World.block_lt_of_cell? w _ hx251_4)).trans hx251_4
                                                    replace hx251_5 := (HB.out.cell (World.block_lt_of_cell? w _ hx251_5)).trans hx251_5
                                                    replace p251 := eq_true p251
                                                    replace q251 := eq_true q251
                                                    go_wp2
                                                    repeat (go_quiet (fail); try go_wp2)
                                                    go_roundg k5
                                                    case measure => have := HK1.out; have := HJ8.out; have := HJ15.out; have := HK4.out; have := HK5.out; omega
                                                    case rel => exact ⟨(wrap64 (x6_5 + 1)), (by first | rfl | (simp; done) | (simp [*]; done)), H', ⟨by have := HK1.out; have := HJ8.out; have := HJ15.out; have := HK4.out; have := HK5.out; omega⟩, ⟨by (with_reducible repeat (first | apply Kd.R_alloc | apply Kd.R_drewN | apply Kd.R_drew)); exact HO_4.out⟩, ⟨by repeat (first | (with_reducible first | exact HB.out | apply below_alloc | apply pw_below_drewN | apply below_drew1) | exact HB.out)⟩⟩
                                                · rw [if_neg c32] at H
                                                  exact absurd H (by simp)
                                              · rw [if_neg c31] at H
                                                exact absurd H (by simp)
                                            · rw [if_neg c30] at H
                                              exact absurd H (by simp)
                                          · rw [if_neg c29] at H
                                            have c29b0 : decide (x6_5 < (t247.length : Int)) = false := decide_eq_false c29
                                            clear c29
                                            have H' := Aside0.mk H
                                            clear H
                                            obtain ⟨Ao38, co38, eo38⟩ := Kd.R_slice HO_4.out
                                            subst eo38
                                            go_wp2
                                            repeat (go_quiet (fail); try go_wp2)
                                            go_roundg k5
                                            case measure => have := HK1.out; have := HJ8.out; have := HJ15.out; have := HK4.out; have := HK5.out; omega
                                            case rel => exact ⟨(wrap64 (x5_4 + 1)), (by first | rfl | (simp; done) | (simp [*]; done)), H', ⟨by have := HK1.out; have := HJ8.out; have := HJ15.out; have := HK4.out; have := HK5.out; omega⟩, ⟨by (with_reducible repeat (first | apply Kd.R_alloc | apply Kd.R_drewN | apply Kd.R_drew)); exact HO_4.out⟩, ⟨by repeat (first | (with_reducible first | exact HB.out | apply below_alloc | apply pw_below_drewN | apply below_drew1) | exact HB.out)⟩⟩
                                    · rw [if_neg c28] at H
                                      have c28b0 : decide (x5_4 < x3_1) = false := decide_eq_false c28
                                      clear c28
                                      have H' := Aside0.mk H
                                      clear H
                                      go_wp2
                                      repeat (go_quiet (fail); try go_wp2)
                                      go_roundg k4
                                      case measure => have := HK1.out; have := HJ8.out; have := HJ15.out; have := HK4.out; omega
                                      case rel => exact ⟨(wrap64 (x3_1 + 1)), (by first | rfl | (simp; done) | (simp [*]; done)), H', ⟨by have := HK1.out; have := HJ8.out; have := HJ15.out; have := HK4.out; omega⟩, ⟨by repeat (first | (with_reducible first | exact HB.out | apply below_alloc | apply pw_below_drewN | apply below_drew1) | exact HB.out)⟩⟩
                              · rw [if_neg c25] at H
                                exact absurd H (by simp)
                            · rw [if_neg c24] at H
                              exact absurd H (by simp)
            · replace c6 := Bool.eq_false_iff.mpr c6
              subst c6
              have H1 : (some 160) = some r := by rw [if_neg (show ¬ (false = true) by decide)] at H; exact H
              clear H
              have H := H1
              clear H1
              obtain rfl := Option.some.inj H
              have p239 : 0 ≤ (x3_1 : Int) := of_decide_eq_true (by first | (with_reducible assumption) | assumption)
              have q239 : x3_1 < (l0.length : Int) := of_decide_eq_true (by first | (with_reducible assumption) | assumption)
              obtain ⟨ad239, e239, hx239_0, hx239_1, hx239_2, hx239_3, hx239_4, hx239_5⟩ := at_T44 HR0.out x3_1 p239 q239
              cases e239
              replace hx239_0 := (HB.out.cell (World.block_lt_of_cell? w _ hx239_0)).trans hx239_0
              replace hx239_1 := (HB.out.cell (World.block_lt_of_cell? w _ hx239_1)).trans hx239_1
              replace hx239_2 := (HB.out.cell (World.block_lt_of_cell? w _ hx239_2)).trans hx239_2
              replace hx239_3 := (HB.out.cell (World.block_lt_of_cell? w _ hx239_3)).trans hx239_3
              replace hx239_4 := (HB.out.cell (World.block_lt_of_cell? w _ hx239_4)).trans hx239_4
              replace hx239_5 := (HB.out.cell (World.block_lt_of_cell? w _ hx239_5)).trans hx239_5
              replace p239 := eq_true p239
              replace q239 := eq_true q239
              go_wp2_with (first | (go_at_call 40; (with_reducible refine (wainloadref16_right.calls k1 ((rd_T44 l0 x3_1).f0) ((rd_T44 l0 x3_1).f1) ((rd_T44 l0 x3_1).f2) ((rd_T44 l0 x3_1).f3) ((rd_T44 l0 x3_1).f4) ((rd_T44 l0 x3_1).f5) false _ A5.out).mono ?_); rintro e w39 ⟨rfl, hb⟩; have n0_ := Aside0.mk (below_step (by repeat (first | (with_reducible first | exact HB.out | apply below_alloc | apply pw_below_drewN | apply below_drew1) | exact HB.out)) hb); clear HB; have HB := n0_; clear n0_; (try clear hb); (try clear hb2); (try clear hk); (try clear hi)))
              repeat (go_quiet (first | (go_at_call 40; (with_reducible refine (wainloadref16_right.calls k1 ((rd_T44 l0 x3_1).f0) ((rd_T44 l0 x3_1).f1) ((rd_T44 l0 x3_1).f2) ((rd_T44 l0 x3_1).f3) ((rd_T44 l0 x3_1).f4) ((rd_T44 l0 x3_1).f5) false _ A5.out).mono ?_); rintro e w39 ⟨rfl, hb⟩; have n0_ := Aside0.mk (below_step (by repeat (first | (with_reducible first | exact HB.out | apply below_alloc | apply pw_below_drewN | apply below_drew1) | exact HB.out)) hb); clear HB; have HB := n0_; clear n0_; (try clear hb); (try clear hb2); (try clear hk); (try clear hi))); try go_wp2_with (first | (go_at_call 40; (with_reducible refine (wainloadref16_right.calls k1 ((rd_T44 l0 x3_1).f0) ((rd_T44 l0 x3_1).f1) ((rd_T44 l0 x3_1).f2) ((rd_T44 l0 x3_1).f3) ((rd_T44 l0 x3_1).f4) ((rd_T44 l0 x3_1).f5) false _ A5.out).mono ?_); rintro e w39 ⟨rfl, hb⟩; have n0_ := Aside0.mk (below_step (by repeat (first | (with_reducible first | exact HB.out | apply below_alloc | apply pw_below_drewN | apply below_drew1) | exact HB.out)) hb); clear HB; have HB := n0_; clear n0_; (try clear hb); (try clear hb2); (try clear hk); (try clear hi))))
              go_ret
              exact ⟨by first | rfl | (simp [errW_none, errW_some] <;> rfl) | (simp [*, errW_none, errW_some] <;> rfl), by repeat (first | (with_reducible first | exact HB.out | apply below_alloc | apply pw_below_drewN | apply below_drew1) | exact HB.out)⟩
          · rw [if_neg c4] at H
            exact absurd H (by simp)
        · rw [if_neg c3] at H
          have c3b0 : decide (x3_1 < (l0.length : Int)) = false := decide_eq_false c3
          clear c3
          obtain rfl := Option.some.inj H
          go_wp2
          repeat (go_quiet (fail); try go_wp2)
          go_ret
          exact ⟨by first | rfl | (simp [errW_none, errW_some] <;> rfl) | (simp [*, errW_none, errW_some] <;> rfl), by repeat (first | (with_reducible first | exact HB.out | apply below_alloc | apply pw_below_drewN | apply below_drew1) | exact HB.out)⟩

end Go.Proofs.YtkmcbpkciakmeaaGreatDoor.PA
