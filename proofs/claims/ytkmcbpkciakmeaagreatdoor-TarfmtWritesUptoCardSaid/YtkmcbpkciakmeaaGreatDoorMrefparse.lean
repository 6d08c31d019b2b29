/- The document's answer: records parsed. -/
import Derived.Test.YtkmcbpkciakmeaaGreatDoorMfields
import Derived.Test.YtkmcbpkciakmeaaGreatDoorMprintedb

/- The document's Decimal answers what the program's does; no program in sight but the printed answer. -/
set_option linter.unusedVariables false
set_option linter.unusedSimpArgs false
namespace Go.Proofs.YtkmcbpkciakmeaaGreatDoor.PA
open Go.RowKit Go.Proofs.YtkmcbpkciakmeaaGreatDoorW.PrintWords Go.Proofs.YtkmcbpkciakmeaaGreatDoorW.PrintLast Go.Proofs.YtkmcbpkciakmeaaGreatDoorW.PrintMore

theorem w_in (n : Int) (h : -9223372036854775808 ≤ n ∧ n ≤ 9223372036854775807) : wrap64 n = n := by unfold wrap64; omega
theorem w_48 (n : Nat) (h : n ≤ 255) : wrap64 (wrap64 (n : Int) - 48) = (n : Int) - 48 := by
  rw [w_in (n : Int) (by omega)]
  exact w_in _ (by omega)
/-- How many digits a text begins with. -/
def lead : Bytes → Nat
  | [] => 0
  | c :: r => if 48 ≤ c.toNat ∧ c.toNat ≤ 57 then lead r + 1 else 0
theorem lead_le : ∀ l : Bytes, lead l ≤ l.length
  | [] => Nat.le_refl _
  | c :: r => by
    have := lead_le r
    unfold lead
    split
    · simp; omega
    · omega
theorem digs_snd : ∀ (l : Bytes) (v m : Int), (digs 10 l v m).2 = m + lead l
  | [], v, m => by simp [digs, lead]
  | c :: r, v, m => by
    unfold digs lead
    by_cases h : 48 ≤ c.toNat ∧ c.toNat ≤ 57
    · rw [if_pos (by omega), if_pos h, digs_snd r]; push_cast; omega
    · rw [if_neg (by omega), if_neg h]; simp
theorem bt_data (s : ByteArray) (i : Nat) (h : i < s.size) : ∃ c r, s.data.toList.drop i = c :: r ∧ bt s (i : Int) = (c.toNat : Int) ∧ r = s.data.toList.drop (i + 1) := by
  refine ⟨s[i], _, drop_at s i h, ?_, rfl⟩
  unfold bt
  rw [dif_pos (by rw [Int.toNat_natCast]; exact h)]
  simp only [Int.toNat_natCast]
theorem drop_nil (s : ByteArray) (i : Nat) (h : ¬ i < s.size) : s.data.toList.drop i = [] := List.drop_of_length_le (by have : s.data.toList.length = s.size := rfl; omega)
theorem run_l0 (s : ByteArray) (hs : s.size ≤ 9223372036854775807) : ∀ (k i : Nat), s.size - i < k → i ≤ s.size → wainloadref03_run.l0 k s (i : Int) = some (((i + lead (s.data.toList.drop i) : Nat) : Int))
  | 0, i, h, _ => by omega
  | k + 1, i, h, hi => by
    rw [wainloadref03_run.l0]
    by_cases hlt : i < s.size
    · obtain ⟨c, r, hd, hb, hr⟩ := bt_data s i hlt
      rw [if_pos (by omega), if_pos (by omega), hb, hd]
      unfold lead
      by_cases h1 : 48 ≤ c.toNat
      · rw [if_pos (by omega)]
        by_cases h2 : c.toNat ≤ 57
        · rw [if_pos (by omega), if_pos ⟨h1, h2⟩]
          have hw : wrap64 ((i : Int) + 1) = ((i + 1 : Nat) : Int) := by rw [w_in _ (by omega)]; push_cast; rfl
          rw [hw, run_l0 s hs k (i + 1) (by omega) (by omega), hr]
          congr 2; omega
        · rw [if_neg (by omega), if_neg (by omega)]; rfl
      · rw [if_neg (by omega), if_neg (by omega)]; rfl
    · rw [if_neg (by omega), drop_nil s i hlt]; rfl
theorem add_f (v d : Int) (hv : -1 ≤ v) (hv2 : v ≤ 4611686018427387904) (hd : 0 ≤ d) (hd2 : d < 10) : wainloadref03_add.f v 10 d = some (addB 10 v d) := by
  unfold wainloadref03_add.f addB
  have e1 : wrap64 (4611686018427387904 - d) = 4611686018427387904 - d := w_in _ (by omega)
  have e2 : Int.tdiv (4611686018427387904 - d) 10 = (4611686018427387904 - d) / 10 := Int.tdiv_eq_ediv_of_nonneg (by omega)
  have e3 : wrap64 ((4611686018427387904 - d) / 10) = (4611686018427387904 - d) / 10 := w_in _ (by omega)
  rw [e1, e2, e3]
  by_cases h : v < 0
  · rw [if_pos h, if_pos (.inl h)]
  · rw [if_neg h, if_neg (by omega)]
    by_cases h2 : v > (4611686018427387904 - d) / 10
    · rw [if_pos h2, if_pos (.inr h2)]
    · rw [if_neg h2, if_neg (by omega)]
      have e4 : wrap64 (v * 10) = v * 10 := w_in _ (by omega)
      have e5 : wrap64 (v * 10 + d) = v * 10 + d := w_in _ (by omega)
      rw [e4, e5]
theorem number_l0 (s : ByteArray) (hs : s.size ≤ 9223372036854775807) : ∀ (k i : Nat) (v m : Int), s.size - i < k → i ≤ s.size → -1 ≤ v → v ≤ 4611686018427387904 → 0 ≤ m → lead (s.data.toList.drop i) = s.size - i → wainloadref03_number.l0 k s v (i : Int) = some (digs 10 (s.data.toList.drop i) v m).1
  | 0, i, v, m, h, _, _, _, _, _ => by omega
  | k + 1, i, v, m, h, hi, hv, hv2, hm, hl => by
    rw [wainloadref03_number.l0]
    by_cases hlt : i < s.size
    · obtain ⟨c, r, hd, hb, hr⟩ := bt_data s i hlt
      rw [hd] at hl
      unfold lead at hl
      split at hl
      · rename_i hc
        have hw : wrap64 (wrap64 ((c.toNat : Int)) - 48) = (c.toNat : Int) - 48 := w_48 c.toNat (by omega)
        have hw2 : wrap64 ((i : Int) + 1) = ((i + 1 : Nat) : Int) := by rw [w_in _ (by omega)]; push_cast; rfl
        have hd48 : 0 ≤ (c.toNat : Int) - 48 ∧ (c.toNat : Int) - 48 < 10 := by omega
        obtain ⟨z, hz⟩ : ∃ z : Int, z = (c.toNat : Int) - 48 := ⟨_, rfl⟩
        rw [← hz] at hd48 hw
        rw [if_pos (show (i : Int) < (s.size : Int) by omega), if_pos (show (0 : Int) ≤ (i : Int) by omega), hb, hw, add_f v z hv hv2 hd48.1 hd48.2, Option.bind_some, hw2, hd]
        unfold digs
        rw [if_pos (show 48 ≤ (c.toNat : Int) ∧ (c.toNat : Int) - 48 < 10 by omega)]
        have ha := addB_range 10 v z (.inr rfl) hd48.1 hd48.2 hv hv2
        rw [← hz, hr]
        exact number_l0 s hs k (i + 1) _ (m + 1) (by omega) (by omega) ha.1 ha.2 (by omega) (by rw [← hr]; omega)
      · omega
    · rw [if_neg (by omega), drop_nil s i hlt]; rfl
/-- From the sign on. -/
theorem dec_j1 (s : ByteArray) (hs : s.size ≤ 9223372036854775807) (p : Bool) (k : Nat) (hk : s.size + 2 < k) :
    wainloadref03_Decimal.j1 k s (if p then -1 else 1) = some (decEnd p (digs 10 s.data.toList 0 0).1 (digs 10 s.data.toList 0 0).2 s.size) := by
  obtain ⟨k1, rfl⟩ : ∃ k1, k = k1 + 1 := ⟨k - 1, by omega⟩
  obtain ⟨k2, rfl⟩ : ∃ k2, k1 = k2 + 1 := ⟨k1 - 1, by omega⟩
  rw [wainloadref03_Decimal.j1]
  have hsnd := digs_snd s.data.toList 0 0
  have hle := lead_le s.data.toList
  have hlen : s.data.toList.length = s.size := rfl
  by_cases h0 : (s.size : Int) = 0
  · rw [if_pos h0, wainloadref03_Decimal.j2, if_pos rfl]
    unfold decEnd
    rw [if_pos (.inl (by rw [hsnd]; omega))]
  · rw [if_neg h0]
    have hr : wainloadref03_run.l0 (k2 + 1) s 0 = some (((0 + lead (s.data.toList.drop 0) : Nat) : Int)) := run_l0 s hs (k2 + 1) 0 (by omega) (by omega)
    unfold wainloadref03_run.f
    rw [hr, Option.bind_some, wainloadref03_Decimal.j2, List.drop_zero, Nat.zero_add]
    by_cases h1 : (lead s.data.toList : Int) < (s.size : Int)
    · rw [if_pos (decide_eq_true h1)]
      unfold decEnd
      rw [if_pos (.inr (by rw [hsnd]; omega))]
    · rw [if_neg (by simpa using h1)]
      unfold wainloadref03_number.f
      have hn : wainloadref03_number.l0 k2 s 0 0 = some (digs 10 (s.data.toList.drop 0) 0 0).1 := number_l0 s hs k2 0 0 0 (by omega) (by omega) (by omega) (by omega) (by omega) (by rw [List.drop_zero]; omega)
      rw [hn, Option.bind_some, List.drop_zero]
      unfold decEnd
      have hrg := digs_range 10 (.inr rfl) s.data.toList 0 0 (by omega) (by omega) (by omega)
      have hc : ¬ ((digs 10 s.data.toList 0 0).2 = 0 ∨ (digs 10 s.data.toList 0 0).2 < (s.size : Int)) := by rw [hsnd]; omega
      simp only [if_neg hc]
      by_cases h2 : (digs 10 s.data.toList 0 0).1 < 0
      · rw [if_pos h2, if_pos h2]
      · rw [if_neg h2, if_neg h2]
        have hb := hrg.2.1
        obtain ⟨D, hD⟩ : ∃ D, D = (digs 10 s.data.toList 0 0).1 := ⟨_, rfl⟩
        rw [← hD] at hb h2 ⊢
        have w1 : wrap64 (-1 * D) = -D := by rw [w_in (-1 * D) (by omega)]; omega
        have w2 : wrap64 (1 * D) = D := by rw [w_in (1 * D) (by omega)]; omega
        cases p with
        | true => simp only [if_true]; rw [w1]
        | false => simp only [Bool.false_eq_true, if_false]; rw [w2]
theorem extract_tail (s : ByteArray) (h : 0 < s.size) : (s.extract 1 s.size).data.toList = s.data.toList.drop 1 ∧ (s.extract 1 s.size).size = s.size - 1 := by
  constructor
  · simp [ByteArray.data_extract]
    exact List.take_of_length_le (by simp)
  · simp
/-- The document's Decimal. -/
theorem ref_decimal_f (s : ByteArray) (hs : s.size ≤ 9223372036854775806) : wainloadref03_Decimal.f (s.size + 4) s = some (decS s.data.toList) := by
  unfold wainloadref03_Decimal.f decS
  by_cases h0 : (s.size : Int) > 0
  · rw [if_pos h0, if_pos h0, wainloadref03_Decimal.j0]
    obtain ⟨c, r, hd, hb, hr⟩ := bt_data s 0 (by omega)
    rw [List.drop_zero] at hd
    have hb0 : bt s 0 = (c.toNat : Int) := hb
    have hp : Lib.hasPrefix s.data.toList [45] = decide (c = 45) := by
      rw [hd]; unfold Lib.hasPrefix
      simp only [List.isPrefixOf]
      by_cases e : c = 45
      · simp [e]
      · have : (45 == c) = false := by rw [beq_eq_false_iff_ne]; exact Ne.symm e
        simp [this, e]
    by_cases h1 : c = 45
    · have hp1 : Lib.hasPrefix s.data.toList [45] = true := by rw [hp]; exact decide_eq_true h1
      have ht : Lib.trimPrefix s.data.toList [45] = s.data.toList.drop 1 := by unfold Lib.trimPrefix; rw [hp1]; rfl
      obtain ⟨e1, e2⟩ := extract_tail s (by omega)
      rw [hb0, if_pos (by rw [h1]; rfl), if_pos (by omega), hp1, ht]
      have := dec_j1 (s.extract 1 s.size) (by omega) true (s.size + 3) (by omega)
      rw [if_pos rfl] at this
      rw [this, e1, e2]
      congr 3
      have : (List.drop 1 s.data.toList).length = s.size - 1 := by rw [List.length_drop]; rfl
      rw [this]
    · have hp1 : Lib.hasPrefix s.data.toList [45] = false := by rw [hp]; exact decide_eq_false h1
      have ht : Lib.trimPrefix s.data.toList [45] = s.data.toList := by unfold Lib.trimPrefix; rw [hp1]; rfl
      rw [hb0, if_neg (by rw [beq_iff_eq]; intro e; exact h1 (UInt8.toNat_inj.1 (by show c.toNat = 45; omega))), hp1, ht]
      have := dec_j1 s (by omega) false (s.size + 3) (by omega)
      rw [if_neg (by simp)] at this
      rw [this]
      rfl
  · rw [if_neg h0, wainloadref03_Decimal.j0, if_neg (by simp)]
    have hnil : s.data.toList = [] := List.eq_nil_of_length_eq_zero (by show s.size = 0; omega)
    have := dec_j1 s (by omega) false (s.size + 3) (by omega)
    rw [if_neg (by simp)] at this
    rw [this, hnil]
    have : s.size = 0 := by omega
    rw [this]
    rfl
theorem ref_decimal (s : ByteArray) (w : World) (hs : s.size ≤ 9223372036854775806) : Calls Tryz.prog 71 #[.string s] w fun e w' => e = .returned (.tuple #[.int .i64 (decS s.data.toList).1, .int .i64 (decS s.data.toList).2]) ∧ Drawn0 w w' :=
  wainloadref03_Decimal.calls _ s _ _ w (ref_decimal_f s hs)
end Go.Proofs.YtkmcbpkciakmeaaGreatDoor.PA
