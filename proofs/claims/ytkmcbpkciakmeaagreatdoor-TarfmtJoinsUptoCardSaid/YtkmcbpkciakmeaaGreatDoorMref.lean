/- The document's answer. -/
import Derived.Test.YtkmcbpkciakmeaaGreatDoorMnames
import Derived.Test.YtkmcbpkciakmeaaGreatDoorMprinted
import Derived.Test.YtkmcbpkciakmeaaGreatDoorMfields
import Derived.Deep.QuietTactic
import Derived.BigQuiet

/- The document's Records: the same bytes; nothing turns but new blocks and the orders drawn. -/
set_option linter.unusedVariables false
set_option linter.unusedSimpArgs false
namespace Go.Proofs.YtkmcbpkciakmeaaGreatDoor.PA
open Go.RowKit Go.Proofs.YtkmcbpkciakmeaaGreatDoorW.PrintWords Go.Proofs.YtkmcbpkciakmeaaGreatDoorW.PrintLast Go.Proofs.YtkmcbpkciakmeaaGreatDoorW.PrintMore

theorem digit_str (d : Nat) (h : d < 10) : strOfNums [(wrap64 (48 + (d : Int))) % 256] = str [UInt8.ofNat (48 + d)] := by
  have e : (wrap64 (48 + (d : Int))) % 256 = ((48 + d : Nat) : Int) := by unfold wrap64; omega
  rw [e, ← strOfNums_ints [UInt8.ofNat (48 + d)]]
  have : (UInt8.ofNat (48 + d)).toNat = 48 + d := by simp; omega
  show strOfNums [((48 + d : Nat) : Int)] = strOfNums [((UInt8.ofNat (48 + d)).toNat : Int)]
  rw [this]
theorem ref_digits_f : ∀ (k n : Nat), decLen n ≤ k → n ≤ 9223372036854775807 → wainloadref17_digits.f k (n : Int) = some (str (Lib.decDigits n))
  | 0, n, h, _ => by have := decLen_pos n; omega
  | k + 1, n, h, hn => by
    rw [wainloadref17_digits.f]
    rcases Nat.lt_or_ge n 10 with h1 | h1
    · rw [if_pos (by omega), digit_str n h1, dec_lt h1]
    · rw [if_neg (by omega)]
      rw [decLen_ge h1] at h
      have e1 : wrap64 (Int.tdiv (n : Int) 10) = ((n / 10 : Nat) : Int) := by
        rw [Int.tdiv_eq_ediv_of_nonneg (by omega)]; unfold wrap64; omega
      have e2 : Int.tmod (n : Int) 10 = ((n % 10 : Nat) : Int) := by
        rw [Int.tmod_eq_emod_of_nonneg (by omega)]; omega
      have ih := ref_digits_f k (n / 10) (by omega) (by omega)
      have hs : decLen (n / 10) ≤ 20 := decLen_le _ (by omega)
      rw [e1, e2, ih, Option.bind_some, Option.bind_some, digit_str _ (by omega), if_pos (by rw [str_size, str_size]; unfold decLen at hs; simp only [List.length_cons, List.length_nil]; omega), str_append, dec_ge h1]
theorem ref_digits (n : Nat) (w : World) (hn : n ≤ 9223372036854775807) : Calls Tryz.prog 35 #[.int .i64 n] w fun e w' => e = .returned (.string (str (Lib.decDigits n))) ∧ Below w.heap.size w w' :=
  wainloadref17_digits.calls 20 n _ w (ref_digits_f 20 n (decLen_le n (by omega)) hn)
theorem NumAt.next1 {rest n : Nat} (h : NumAt rest n) (hn : decLen n + rest ≠ n) : NumAt rest (n + 1) := by
  have hg := h.ge; have hl := h.le
  have hm := decLen_mono (n + 1) n (by omega)
  refine ⟨by omega, by omega, fun m h1 h2 => ?_⟩
  rcases Nat.lt_or_ge m n with h3 | h3
  · exact h.no m h1 h3
  · obtain rfl : m = n := by omega
    exact hn
theorem body_str (x0 x1 : ByteArray) : (⟨#[32]⟩ : ByteArray) ++ x0 ++ (⟨#[61]⟩ : ByteArray) ++ x1 ++ (⟨#[10]⟩ : ByteArray) = str (32 :: (x0.data.toList ++ 61 :: (x1.data.toList ++ [10]))) := by
  apply ByteArray.ext
  apply Array.ext'
  simp [str]

set_option maxHeartbeats 2000000 in
set_option maxRecDepth 100000 in
theorem ref_records_calls (A0 : Option Addr) (c0 : Nat) (xs : List KV) (w : World) (hr0 : Kd.C k39 w A0 xs.length xs) (hc0 : xs.length ≤ c0) (hn : xs.length ≤ 1000) (hz : ∀ x ∈ xs, x.1.size + x.2.size ≤ 4294967296) :
    Calls Tryz.prog 17 #[.slice A0 xs.length c0] w fun e w' => e = .returned (.string (str (recsS xs))) ∧ Below w.heap.size w w' := by
  have HC := Aside0.mk hr0
  have HZ := Aside0.mk hz
  have hlen : ∀ k, k ≤ xs.length → (recsS (xs.take k)).length ≤ 4294967319 * 1000 := by
    intro k hk
    have := recsS_le 4294967296 (Nat.le_refl _) (xs.take k) (fun x hx => hz x (List.mem_of_mem_take hx))
    rw [List.length_take] at this
    have h2 : min k xs.length * (4294967296 + 23) ≤ 1000 * (4294967296 + 23) := Nat.mul_le_mul_right _ (by omega)
    omega
  have HL := Aside0.mk hlen
  clear hr0 hz hlen
  go_enter Tryz.func17, Tryz.ntmps17
  go_wp2_with fail
  go_loopw [3, 4] (fun v3 v4 wr => ∃ k : Nat, v4 = .int .i64 k ∧ k ≤ xs.length ∧ v3 = .string (str (recsS (xs.take k))) ∧ Aside0 (Below w.heap.size w wr)) (fun _ v4 _ => xs.length - (intOf v4).toNat)
  case atStart => exact ⟨0, rfl, by omega, rfl, ⟨Below.refl _ _⟩⟩
  case round =>
    obtain ⟨k, rfl, hk0, rfl, hA⟩ := hrel
    by_cases hk : k < xs.length
    · obtain ⟨ad, eA, c0_, c1_⟩ := at_39 (Kd.C_below HC.out hA.out) k hk
      have hmem : xs.getD k zKV ∈ xs := by rw [List.getD_eq_getElem?_getD, List.getElem?_eq_getElem hk]; exact List.getElem_mem hk
      obtain ⟨x, hx⟩ : ∃ x, xs.getD k zKV = x := ⟨_, rfl⟩
      rw [hx] at c0_ c1_ hmem
      have HX := Aside0.mk hx
      have hzx := HZ.out x hmem
      clear hx hmem
      subst eA
      obtain ⟨x0, x1⟩ := x
      dsimp only at c0_ c1_ hzx
      have hsz : (recsS (xs.take k)).length ≤ 4294967319 * 1000 := HL.out k hk0
      obtain ⟨rest, hrest⟩ : ∃ rest, rest = x0.size + x1.size + 3 := ⟨_, rfl⟩
      obtain ⟨R0, hR0⟩ : ∃ R0, R0 = str (recsS (xs.take k)) := ⟨_, rfl⟩
      have hR0s : R0.size ≤ 4294967319 * 1000 := by rw [hR0, str_size]; exact hsz
      rw [← hR0]
      have HR0 := Aside0.mk hR0
      clear hR0 hsz
      obtain ⟨bd, hbd⟩ : ∃ bd, bd = (⟨#[32]⟩ : ByteArray) ++ x0 ++ (⟨#[61]⟩ : ByteArray) ++ x1 ++ (⟨#[10]⟩ : ByteArray) := ⟨_, rfl⟩
      have hbs : bd.size = rest := by rw [hbd, hrest]; simp only [ByteArray.size_append]; show 1 + x0.size + 1 + x1.size + 1 = _; omega
      have q1 : ¬ 9223372036854775807 < 1 + x0.size := by omega
      have q2 : ¬ 9223372036854775807 < 1 + x0.size + 1 := by omega
      have q3 : ¬ 9223372036854775807 < 1 + x0.size + 1 + x1.size := by omega
      have q4 : ¬ 9223372036854775807 < 1 + x0.size + 1 + x1.size + 1 := by omega
      have HBD := Aside0.mk hbd
      have HRS := Aside0.mk hrest
      have hrs : rest ≤ 4294967299 := by omega
      clear hbd hrest
      go_wp2_with fail
      go_quiet (fail)
      have hB1 : Below w.heap.size w (wr.drewN nq) := pw_below_drewN hA.out nq
      have HB1 := Aside0.mk hB1
      generalize wr.drewN nq = W1 at *
      go_wp2_with fail
      rw [← HBD.out, show (1 + (x0.size : Int) + 1 + (x1.size : Int) + 1) = (rest : Int) from by have := HRS.out; omega]
      have hbi : (bd.size : Int) = (rest : Int) := by rw [hbs]
      have HBS := Aside0.mk hbs
      go_loopw [6] (fun v6 wi => ∃ n : Nat, v6 = .int .i64 n ∧ n ≤ rest + 20 ∧ Aside0 (NumAt rest n) ∧ Aside0 (Below w.heap.size w wi)) (fun v6 _ => rest + 20 - (intOf v6).toNat)
      case atStart => exact ⟨rest, rfl, by omega, ⟨NumAt.start rest⟩, HB1⟩
      case round =>
        obtain ⟨n, rfl, hnr, hN, hBi⟩ := hrel
        have H35 := Aside0.mk (fun W => ref_digits n W (by omega))
        have hds : ((str (Lib.decDigits n)).size : Int) = (decLen n : Int) := by rw [str_size]; rfl
        have hds2 : (str (Lib.decDigits n)).size = decLen n := by rw [str_size]; rfl
        have hdl : decLen n ≤ 20 := decLen_le n (by omega)
        by_cases he : decLen n + rest = n
        · have e1 : ((decLen n : Int) + (rest : Int) != (n : Int)) = false := by rw [bne_eq_false_iff_eq]; omega
          have HF : Aside0 (recNum rest = n) := ⟨recNum_eq hN.out he (by omega)⟩
          have HRB : Aside0 (str (Lib.decDigits n) ++ bd = str (recB (x0, x1))) := ⟨by
            rw [HBD.out, body_str, str_append]
            unfold recB; rw [show (x0, x1).1.size + (x0, x1).2.size + 3 = rest from HRS.out.symm, HF.out]⟩
          have HE := Aside0.mk he
          clear he
          go_wp2_with (first | (go_at_call 35; refine (H35.out _).mono ?_; rintro e w1 ⟨rfl, hb1⟩; have hbx := Aside0.mk (below_then hBi.out hBi.out.size hb1)) | (go_at_call 35; refine (H35.out _).mono ?_; rintro e w2 ⟨rfl, hb2⟩; have hbz := Aside0.mk (below_then hbx.out hbx.out.size hb2)))
          go_roundw
          case rel => exact ⟨k + 1, rfl, hk, by rw [HR0.out, ByteArray.append_assoc, HRB.out, str_append, recsS_take xs k hk, HX.out], hbz⟩
          case measure => simp [intOf]; omega
        · have e1 : ((decLen n : Int) + (rest : Int) != (n : Int)) = true := by rw [bne_iff_ne]; omega
          have HN := Aside0.mk (hN.out.next1 he)
          have hnl := hN.out.le
          have HE := Aside0.mk he
          clear he
          have hlt : n < decLen n + rest := by have := HE.out; omega
          go_wp2_with (first | (go_at_call 35; refine (H35.out _).mono ?_; rintro e w1 ⟨rfl, hb1⟩; have hbx := Aside0.mk (below_then hBi.out hBi.out.size hb1)))
          go_roundw
          case rel => exact ⟨n + 1, by push_cast; rfl, by omega, HN, hbx⟩
          case measure => simp [intOf]; omega
    · have HF : Aside0 (recsS (xs.take k) = recsS xs) := ⟨by rw [List.take_of_length_le (by omega)]⟩
      go_wp2_with fail
      go_ret
      refine ⟨?_, hA.out⟩
      rw [HF.out]
      rfl
end Go.Proofs.YtkmcbpkciakmeaaGreatDoor.PA

/- A number that 64 bits hold stays as it is. -/
set_option linter.unusedVariables false
set_option linter.unusedSimpArgs false
namespace Go.Proofs.YtkmcbpkciakmeaaGreatDoor.PA
open Go.RowKit Go.Proofs.YtkmcbpkciakmeaaGreatDoorW.PrintWords Go.Proofs.YtkmcbpkciakmeaaGreatDoorW.PrintLast Go.Proofs.YtkmcbpkciakmeaaGreatDoorW.PrintMore

theorem w_in (n : Int) (h : -9223372036854775808 ≤ n ∧ n ≤ 9223372036854775807) : wrap64 n = n := by unfold wrap64; omega
end Go.Proofs.YtkmcbpkciakmeaaGreatDoor.PA
