/- The document's answer: records parsed. -/
import Derived.Test.YtkmcbpkciakmeaaGreatDoorMparse
import Derived.Test.YtkmcbpkciakmeaaGreatDoorMfields
import Derived.Test.YtkmcbpkciakmeaaGreatDoorMprintedb
import Derived.Test.YtkmcbpkciakmeaaGreatDoorMref
import Derived.Deep.QuietTactic
import Derived.BigQuiet
import Derived.Deep.RegionWith

/- The first record of a text, as the document finds it; no program in sight. -/
set_option linter.unusedVariables false
set_option linter.unusedSimpArgs false
namespace Go.Proofs.YtkmcbpkciakmeaaGreatDoor.PA
open Go.RowKit Go.Proofs.YtkmcbpkciakmeaaGreatDoorW.PrintWords Go.Proofs.YtkmcbpkciakmeaaGreatDoorW.PrintLast Go.Proofs.YtkmcbpkciakmeaaGreatDoorW.PrintMore

theorem seg_split (l : Bytes) (a b c : Nat) (h1 : a ≤ b) (h2 : b ≤ c) (h3 : c ≤ l.length) : seg l a c = seg l a b ++ seg l b c := by
  apply List.ext_getElem?
  intro j
  have hl := seg_len (l := l) (a := a) (b := b) (by omega)
  rw [seg_get, List.getElem?_append, hl]
  by_cases hj : j < b - a
  · rw [if_pos hj, seg_get, if_pos (by omega), if_pos (by omega)]
  · rw [if_neg hj, seg_get]
    by_cases hc : a + j < c
    · rw [if_pos hc, if_pos (by omega)]; congr 1; omega
    · rw [if_neg hc, if_neg (by omega)]
theorem seg_one (l : Bytes) (k : Nat) (b : UInt8) (h : l[k]? = some b) : seg l k (k + 1) = [b] := by
  have hk : k < l.length := by
    rcases Nat.lt_or_ge k l.length with h1 | h1
    · exact h1
    · rw [List.getElem?_eq_none h1] at h; cases h
  apply List.ext_getElem?
  intro j
  rw [seg_get]
  rcases j with _ | j
  · rw [if_pos (by omega), Nat.add_zero, h]; rfl
  · rw [if_neg (by omega)]; rfl
theorem seg_mem {l : Bytes} {a c : Nat} {b : UInt8} (h : b ∈ seg l a c) : ∃ j, a ≤ j ∧ j < c ∧ l[j]? = some b := by
  obtain ⟨i, hi, hib⟩ := List.getElem_of_mem h
  have : (seg l a c)[i]? = some b := by rw [List.getElem?_eq_getElem hi, hib]
  rw [seg_get] at this
  split at this
  · exact ⟨a + i, by omega, by omega, this⟩
  · cases this
theorem cut_first {l : Bytes} {a : Nat} {c : UInt8} (hlt : ∀ i b, i < a → l[i]? = some b → b ≠ c) (ha : l[a]? = some c) : Lib.cut l [c] = (l.take a, l.drop (a + 1), true) := by
  have hk : a < l.length := by
    rcases Nat.lt_or_ge a l.length with h1 | h1
    · exact h1
    · rw [List.getElem?_eq_none h1] at ha; cases ha
  have e : l = l.take a ++ c :: l.drop (a + 1) := by
    conv => lhs; rw [← List.take_append_drop a l, List.drop_eq_getElem_cons hk]
    rw [List.getElem?_eq_getElem hk] at ha
    rw [Option.some.inj ha]
  rw [lib_cut]
  conv => lhs; rw [e]
  refine cut1_at fun b hb => ?_
  obtain ⟨i, hi, hib⟩ := List.getElem_of_mem hb
  rw [List.length_take] at hi
  rw [List.getElem_take] at hib
  exact hlt i b (by omega) (by rw [List.getElem?_eq_getElem (by omega), hib])
theorem cut_nowhere {l : Bytes} {c : UInt8} (h : ∀ b ∈ l, b ≠ c) : Lib.cut l [c] = (l, [], false) := by rw [lib_cut, cut1_none h]
/-- No space: no record. -/
theorem parse1_nospace {l : Bytes} (h : ∀ i b, i < l.length → l[i]? = some b → b ≠ 32) : parse1 l = none := by
  unfold parse1 parseA
  rw [cut_nowhere (c := 32) (fun b hb => by
    obtain ⟨i, hi, hib⟩ := List.getElem_of_mem hb
    exact h i b hi (by rw [List.getElem?_eq_getElem hi, hib]))]
  rw [if_pos (.inl rfl)]
/-- The number that a record begins with: a is where the space stands. -/
theorem parseA_at {l : Bytes} {a : Nat} (hlt : ∀ i b, i < a → l[i]? = some b → b ≠ 32) (ha : l[a]? = some 32) :
    parseA l = if (decS (l.take a)).2 ≠ 0 ∨ Lib.itoa (decS (l.take a)).1 ≠ l.take a ∨ (l.length : Int) < (decS (l.take a)).1 ∨ (decS (l.take a)).1 ≤ (a : Int) + 1 then none else some (l.take a, (decS (l.take a)).1.toNat) := by
  have hk : a < l.length := by
    rcases Nat.lt_or_ge a l.length with h1 | h1
    · exact h1
    · rw [List.getElem?_eq_none h1] at ha; cases ha
  unfold parseA
  rw [cut_first hlt ha]
  simp only [Bool.true_eq_false, false_or, List.length_take]
  rw [Nat.min_eq_left (by omega)]
theorem suffix_not {m v : Bytes} {b : UInt8} (h : ∀ x, m.getLast? = some x → x ≠ b) (hv : v <:+ m) : Lib.hasSuffix v [b] = false := by
  unfold Lib.hasSuffix
  rw [Bool.eq_false_iff]
  intro hs
  rw [List.isSuffixOf_iff_suffix] at hs
  obtain ⟨u, hu⟩ := hs.trans hv
  have : m.getLast? = some b := by rw [← hu]; simp
  exact h b this rfl
/-- The record's end is no newline: none. -/
theorem parseB_end {m : Bytes} (h : ∀ x, m.getLast? = some x → x ≠ 10) : parseB m = none := by
  unfold parseB
  rcases first_cases m 61 with h1 | ⟨a, r, hm, ha⟩
  · rw [cut_nowhere h1, if_pos (.inl rfl)]
  · rw [if_pos]
    right; left
    rw [lib_cut, hm, cut1_at ha]
    refine suffix_not h ?_
    rw [hm]
    exact ⟨a ++ [61], by simp⟩
theorem parseB_no {m : Bytes} (h : ∀ b ∈ m, b ≠ 61) : parseB m = none := by
  unfold parseB
  rw [cut_nowhere h, if_pos (.inl rfl)]
theorem parseB_yes {k v : Bytes} (hk : ∀ b ∈ k, b ≠ 61) : parseB (k ++ 61 :: (v ++ [10])) = if k = [] then none else some (str k, str v) := by
  unfold parseB
  rw [lib_cut, cut1_at hk]
  simp only [suffix_last, Bool.true_eq_false, false_or]
  by_cases h : k = []
  · rw [if_pos h, if_pos h]
  · rw [if_neg h, if_neg h]
    unfold Lib.trimSuffix
    rw [suffix_last, if_pos rfl]
    simp
theorem parse1_of {l d : Bytes} {n : Nat} (h : parseA l = some (d, n)) : parse1 l = (parseB (seg l (d.length + 1) n)).map fun kv => (kv, n) := by
  unfold parse1; rw [h]
theorem parse1_noA {l : Bytes} (h : parseA l = none) : parse1 l = none := by
  unfold parse1; rw [h]
end Go.Proofs.YtkmcbpkciakmeaaGreatDoor.PA

/- The document's Decimal answers what the program's does; no program in sight but the printed answer. -/
set_option linter.unusedVariables false
set_option linter.unusedSimpArgs false
namespace Go.Proofs.YtkmcbpkciakmeaaGreatDoor.PA
open Go.RowKit Go.Proofs.YtkmcbpkciakmeaaGreatDoorW.PrintWords Go.Proofs.YtkmcbpkciakmeaaGreatDoorW.PrintLast Go.Proofs.YtkmcbpkciakmeaaGreatDoorW.PrintMore

theorem w_in (n : Int) (h : -9223372036854775808 ≤ n ∧ n ≤ 9223372036854775807) : wrap64 n = n := by unfold wrap64; omega
theorem w_48 (n : Nat) (h : n ≤ 255) : wrap64 (wrap64 (n : Int) - 48) = (n : Int) - 48 := by
  rw [w_in (n : Int) (by omega)]
  exact w_in _ (by omega)
/-- How many digits a text begins with. -/
def lead : Bytes → Nat
  | [] => 0
  | c :: r => if 48 ≤ c.toNat ∧ c.toNat ≤ 57 then lead r + 1 else 0
theorem lead_le : ∀ l : Bytes, lead l ≤ l.length
  | [] => Nat.le_refl _
  | c :: r => by
    have := lead_le r
    unfold lead
    split
    · simp; omega
    · omega
theorem digs_snd : ∀ (l : Bytes) (v m : Int), (digs 10 l v m).2 = m + lead l
  | [], v, m => by simp [digs, lead]
  | c :: r, v, m => by
    unfold digs lead
    by_cases h : 48 ≤ c.toNat ∧ c.toNat ≤ 57
    · rw [if_pos (by omega), if_pos h, digs_snd r]; push_cast; omega
    · rw [if_neg (by omega), if_neg h]; simp
theorem bt_data (s : ByteArray) (i : Nat) (h : i < s.size) : ∃ c r, s.data.toList.drop i = c :: r ∧ bt s (i : Int) = (c.toNat : Int) ∧ r = s.data.toList.drop (i + 1) := by
  refine ⟨s[i], _, drop_at s i h, ?_, rfl⟩
  unfold bt
  rw [dif_pos (by rw [Int.toNat_natCast]; exact h)]
  simp only [Int.toNat_natCast]
theorem drop_nil (s : ByteArray) (i : Nat) (h : ¬ i < s.size) : s.data.toList.drop i = [] := List.drop_of_length_le (by have : s.data.toList.length = s.size := rfl; omega)
theorem run_l0 (s : ByteArray) (hs : s.size ≤ 9223372036854775807) : ∀ (k i : Nat), s.size - i < k → i ≤ s.size → wainloadref03_run.l0 k s (i : Int) = some (((i + lead (s.data.toList.drop i) : Nat) : Int))
  | 0, i, h, _ => by omega
  | k + 1, i, h, hi => by
    rw [wainloadref03_run.l0]
    by_cases hlt : i < s.size
    · obtain ⟨c, r, hd, hb, hr⟩ := bt_data s i hlt
      rw [if_pos (by omega), if_pos (by omega), hb, hd]
      unfold lead
      by_cases h1 : 48 ≤ c.toNat
      · rw [if_pos (by omega)]
        by_cases h2 : c.toNat ≤ 57
        · rw [if_pos (by omega), if_pos ⟨h1, h2⟩]
          have hw : wrap64 ((i : Int) + 1) = ((i + 1 : Nat) : Int) := by rw [w_in _ (by omega)]; push_cast; rfl
          rw [hw, run_l0 s hs k (i + 1) (by omega) (by omega), hr]
          congr 2; omega
        · rw [if_neg (by omega), if_neg (by omega)]; rfl
      · rw [if_neg (by omega), if_neg (by omega)]; rfl
    · rw [if_neg (by omega), drop_nil s i hlt]; rfl
theorem add_f (v d : Int) (hv : -1 ≤ v) (hv2 : v ≤ 4611686018427387904) (hd : 0 ≤ d) (hd2 : d < 10) : wainloadref03_add.f v 10 d = some (addB 10 v d) := by
  unfold wainloadref03_add.f addB
  have e1 : wrap64 (4611686018427387904 - d) = 4611686018427387904 - d := w_in _ (by omega)
  have e2 : Int.tdiv (4611686018427387904 - d) 10 = (4611686018427387904 - d) / 10 := Int.tdiv_eq_ediv_of_nonneg (by omega)
  have e3 : wrap64 ((4611686018427387904 - d) / 10) = (4611686018427387904 - d) / 10 := w_in _ (by omega)
  rw [e1, e2, e3]
  by_cases h : v < 0
  · rw [if_pos h, if_pos (.inl h)]
  · rw [if_neg h, if_neg (by omega)]
    by_cases h2 : v > (4611686018427387904 - d) / 10
    · rw [if_pos h2, if_pos (.inr h2)]
    · rw [if_neg h2, if_neg (by omega)]
      have e4 : wrap64 (v * 10) = v * 10 := w_in _ (by omega)
      have e5 : wrap64 (v * 10 + d) = v * 10 + d := w_in _ (by omega)
      rw [e4, e5]
theorem number_l0 (s : ByteArray) (hs : s.size ≤ 9223372036854775807) : ∀ (k i : Nat) (v m : Int), s.size - i < k → i ≤ s.size → -1 ≤ v → v ≤ 4611686018427387904 → 0 ≤ m → lead (s.data.toList.drop i) = s.size - i → wainloadref03_number.l0 k s v (i : Int) = some (digs 10 (s.data.toList.drop i) v m).1
  | 0, i, v, m, h, _, _, _, _, _ => by omega
  | k + 1, i, v, m, h, hi, hv, hv2, hm, hl => by
    rw [wainloadref03_number.l0]
    by_cases hlt : i < s.size
    · obtain ⟨c, r, hd, hb, hr⟩ := bt_data s i hlt
      rw [hd] at hl
      unfold lead at hl
      split at hl
      · rename_i hc
        have hw : wrap64 (wrap64 ((c.toNat : Int)) - 48) = (c.toNat : Int) - 48 := w_48 c.toNat (by omega)
        have hw2 : wrap64 ((i : Int) + 1) = ((i + 1 : Nat) : Int) := by rw [w_in _ (by omega)]; push_cast; rfl
        have hd48 : 0 ≤ (c.toNat : Int) - 48 ∧ (c.toNat : Int) - 48 < 10 := by omega
        obtain ⟨z, hz⟩ : ∃ z : Int, z = (c.toNat : Int) - 48 := ⟨_, rfl⟩
        rw [← hz] at hd48 hw
        rw [if_pos (show (i : Int) < (s.size : Int) by omega), if_pos (show (0 : Int) ≤ (i : Int) by omega), hb, hw, add_f v z hv hv2 hd48.1 hd48.2, Option.bind_some, hw2, hd]
        unfold digs
        rw [if_pos (show 48 ≤ (c.toNat : Int) ∧ (c.toNat : Int) - 48 < 10 by omega)]
        have ha := addB_range 10 v z (.inr rfl) hd48.1 hd48.2 hv hv2
        rw [← hz, hr]
        exact number_l0 s hs k (i + 1) _ (m + 1) (by omega) (by omega) ha.1 ha.2 (by omega) (by rw [← hr]; omega)
      · omega
    · rw [if_neg (by omega), drop_nil s i hlt]; rfl
/-- From the sign on. -/
theorem dec_j1 (s : ByteArray) (hs : s.size ≤ 9223372036854775807) (p : Bool) (k : Nat) (hk : s.size + 2 < k) :
    wainloadref03_Decimal.j1 k s (if p then -1 else 1) = some (decEnd p (digs 10 s.data.toList 0 0).1 (digs 10 s.data.toList 0 0).2 s.size) := by
  obtain ⟨k1, rfl⟩ : ∃ k1, k = k1 + 1 := ⟨k - 1, by omega⟩
  obtain ⟨k2, rfl⟩ : ∃ k2, k1 = k2 + 1 := ⟨k1 - 1, by omega⟩
  rw [wainloadref03_Decimal.j1]
  have hsnd := digs_snd s.data.toList 0 0
  have hle := lead_le s.data.toList
  have hlen : s.data.toList.length = s.size := rfl
  by_cases h0 : (s.size : Int) = 0
  · rw [if_pos h0, wainloadref03_Decimal.j2, if_pos rfl]
    unfold decEnd
    rw [if_pos (.inl (by rw [hsnd]; omega))]
  · rw [if_neg h0]
    have hr : wainloadref03_run.l0 (k2 + 1) s 0 = some (((0 + lead (s.data.toList.drop 0) : Nat) : Int)) := run_l0 s hs (k2 + 1) 0 (by omega) (by omega)
    unfold wainloadref03_run.f
    rw [hr, Option.bind_some, wainloadref03_Decimal.j2, List.drop_zero, Nat.zero_add]
    by_cases h1 : (lead s.data.toList : Int) < (s.size : Int)
    · rw [if_pos (decide_eq_true h1)]
      unfold decEnd
      rw [if_pos (.inr (by rw [hsnd]; omega))]
    · rw [if_neg (by simpa using h1)]
      unfold wainloadref03_number.f
      have hn : wainloadref03_number.l0 k2 s 0 0 = some (digs 10 (s.data.toList.drop 0) 0 0).1 := number_l0 s hs k2 0 0 0 (by omega) (by omega) (by omega) (by omega) (by omega) (by rw [List.drop_zero]; omega)
      rw [hn, Option.bind_some, List.drop_zero]
      unfold decEnd
      have hrg := digs_range 10 (.inr rfl) s.data.toList 0 0 (by omega) (by omega) (by omega)
      have hc : ¬ ((digs 10 s.data.toList 0 0).2 = 0 ∨ (digs 10 s.data.toList 0 0).2 < (s.size : Int)) := by rw [hsnd]; omega
      simp only [if_neg hc]
      by_cases h2 : (digs 10 s.data.toList 0 0).1 < 0
      · rw [if_pos h2, if_pos h2]
      · rw [if_neg h2, if_neg h2]
        have hb := hrg.2.1
        obtain ⟨D, hD⟩ : ∃ D, D = (digs 10 s.data.toList 0 0).1 := ⟨_, rfl⟩
        rw [← hD] at hb h2 ⊢
        have w1 : wrap64 (-1 * D) = -D := by rw [w_in (-1 * D) (by omega)]; omega
        have w2 : wrap64 (1 * D) = D := by rw [w_in (1 * D) (by omega)]; omega
        cases p with
        | true => simp only [if_true]; rw [w1]
        | false => simp only [Bool.false_eq_true, if_false]; rw [w2]
theorem extract_tail (s : ByteArray) (h : 0 < s.size) : (s.extract 1 s.size).data.toList = s.data.toList.drop 1 ∧ (s.extract 1 s.size).size = s.size - 1 := by
  constructor
  · simp [ByteArray.data_extract]
    exact List.take_of_length_le (by simp)
  · simp
/-- The document's Decimal. -/
theorem ref_decimal_f (s : ByteArray) (hs : s.size ≤ 9223372036854775806) : wainloadref03_Decimal.f (s.size + 4) s = some (decS s.data.toList) := by
  unfold wainloadref03_Decimal.f decS
  by_cases h0 : (s.size : Int) > 0
  · rw [if_pos h0, if_pos h0, wainloadref03_Decimal.j0]
    obtain ⟨c, r, hd, hb, hr⟩ := bt_data s 0 (by omega)
    rw [List.drop_zero] at hd
    have hb0 : bt s 0 = (c.toNat : Int) := hb
    have hp : Lib.hasPrefix s.data.toList [45] = decide (c = 45) := by
      rw [hd]; unfold Lib.hasPrefix
      simp only [List.isPrefixOf]
      by_cases e : c = 45
      · simp [e]
      · have : (45 == c) = false := by rw [beq_eq_false_iff_ne]; exact Ne.symm e
        simp [this, e]
    by_cases h1 : c = 45
    · have hp1 : Lib.hasPrefix s.data.toList [45] = true := by rw [hp]; exact decide_eq_true h1
      have ht : Lib.trimPrefix s.data.toList [45] = s.data.toList.drop 1 := by unfold Lib.trimPrefix; rw [hp1]; rfl
      obtain ⟨e1, e2⟩ := extract_tail s (by omega)
      rw [hb0, if_pos (by rw [h1]; rfl), if_pos (by omega), hp1, ht]
      have := dec_j1 (s.extract 1 s.size) (by omega) true (s.size + 3) (by omega)
      rw [if_pos rfl] at this
      rw [this, e1, e2]
      congr 3
      have : (List.drop 1 s.data.toList).length = s.size - 1 := by rw [List.length_drop]; rfl
      rw [this]
    · have hp1 : Lib.hasPrefix s.data.toList [45] = false := by rw [hp]; exact decide_eq_false h1
      have ht : Lib.trimPrefix s.data.toList [45] = s.data.toList := by unfold Lib.trimPrefix; rw [hp1]; rfl
      rw [hb0, if_neg (by rw [beq_iff_eq]; intro e; exact h1 (UInt8.toNat_inj.1 (by show c.toNat = 45; omega))), hp1, ht]
      have := dec_j1 s (by omega) false (s.size + 3) (by omega)
      rw [if_neg (by simp)] at this
      rw [this]
      rfl
  · rw [if_neg h0, wainloadref03_Decimal.j0, if_neg (by simp)]
    have hnil : s.data.toList = [] := List.eq_nil_of_length_eq_zero (by show s.size = 0; omega)
    have := dec_j1 s (by omega) false (s.size + 3) (by omega)
    rw [if_neg (by simp)] at this
    rw [this, hnil]
    have : s.size = 0 := by omega
    rw [this]
    rfl
theorem ref_decimal (s : ByteArray) (w : World) (hs : s.size ≤ 9223372036854775806) : Calls Tryz.prog 71 #[.string s] w fun e w' => e = .returned (.tuple #[.int .i64 (decS s.data.toList).1, .int .i64 (decS s.data.toList).2]) ∧ Drawn0 w w' :=
  wainloadref03_Decimal.calls _ s _ _ w (ref_decimal_f s hs)
end Go.Proofs.YtkmcbpkciakmeaaGreatDoor.PA

/- A region that draws its order, whose operations read and whose callees lay new blocks alone: one walk, in the order of the text. -/
set_option linter.unusedVariables false
namespace Go.Proofs.YtkmcbpkciakmeaaGreatDoor.PA
open Go.RowKit Go.Proofs.YtkmcbpkciakmeaaGreatDoorW.PrintWords Go.Proofs.YtkmcbpkciakmeaaGreatDoorW.PrintLast Go.Proofs.YtkmcbpkciakmeaaGreatDoorW.PrintMore

/-- A world that has new blocks beside w0's. -/
structure BelowOf (w0 : World) where
  w : World
  h : Below w0.heap.size w0 w
instance (w0 : World) : Inhabited (BelowOf w0) := ⟨⟨w0, Below.refl _ _⟩⟩
theorem region_below {P : Program} {id : Nat} {Q : Exit → Act → World → Prop} {a : Act} {w : World} {l : List Oper} (w0 : World) (hm : P.follows .mixedOrders = true) (hB : Region.lexB .any l.toArray = true) (hw : Below w0.heap.size w0 w)
    (h : wpQuiet P l.toArray (fun w' => ∃ p : BelowOf w0, w' = p.w) (fun a' => ∀ w', (∃ p : BelowOf w0, w' = p.w) → Q .normal a' w') l a) : (Code.region id l.toArray true).wp P Q a w :=
  wp_region_quiet (C := fun w' => ∃ p : BelowOf w0, w' = p.w) hm hB ⟨⟨_, below_drew hw⟩, rfl⟩ (by simpa using h)
theorem Calls.of_below {P : Program} {f : FuncId} {args : Array Value} {w0 : World} {a : BelowOf w0} {v : Value}
    (h : Calls P f args a.w fun e w' => e = .returned v ∧ Below a.w.heap.size a.w w') : Calls P f args a.w fun e w'' => e = .returned v ∧ ∃ p : BelowOf w0, w'' = p.w :=
  h.mono fun _ w' ⟨he, hb⟩ => ⟨he, ⟨w', below_then a.h a.h.size hb⟩, rfl⟩
end Go.Proofs.YtkmcbpkciakmeaaGreatDoor.PA

/- The document's record: the one that a text begins with; nothing turns but new blocks and the orders drawn. -/
set_option linter.unusedVariables false
set_option linter.unusedSimpArgs false
namespace Go.Proofs.YtkmcbpkciakmeaaGreatDoor.PA
open Go.RowKit Go.Proofs.YtkmcbpkciakmeaaGreatDoorW.PrintWords Go.Proofs.YtkmcbpkciakmeaaGreatDoorW.PrintLast Go.Proofs.YtkmcbpkciakmeaaGreatDoorW.PrintMore

theorem u8_ne (k : UInt8) (b : UInt8) (h : k ≠ b) : ((k.toNat : Int) == (b.toNat : Int)) = false ∧ ((k.toNat : Int) != (b.toNat : Int)) = true := by
  have e : ((k.toNat : Int) == (b.toNat : Int)) = false := by
    rw [beq_eq_false_iff_ne]; intro e; exact h (UInt8.toNat_inj.1 (by omega))
  exact ⟨e, by unfold bne; rw [e]; rfl⟩
theorem u8_eq (k : UInt8) (b : UInt8) (h : k = b) : ((k.toNat : Int) == (b.toNat : Int)) = true ∧ ((k.toNat : Int) != (b.toNat : Int)) = false := by
  have e : ((k.toNat : Int) == (b.toNat : Int)) = true := by rw [h]; exact beq_self_eq_true _
  exact ⟨e, by unfold bne; rw [e]; rfl⟩
theorem get_dat (s : ByteArray) (j : Nat) (h : j < s.size) : s.data.toList[j]? = some s[j] := by
  have : j < s.data.toList.length := h
  rw [List.getElem?_eq_getElem this]
  rfl
theorem tl_inj {a b : ByteArray} (h : a.toList = b.toList) : a = b := by
  rw [Lib.toList_data, Lib.toList_data] at h
  apply ByteArray.ext
  apply Array.ext'
  exact h
theorem ext_seg (s : ByteArray) (i j : Nat) : s.extract i j = str (seg s.data.toList i j) := by
  apply ByteArray.ext
  apply Array.ext'
  rw [ByteArray.data_extract, Array.toList_extract]
  show List.extract s.data.toList i j = seg s.data.toList i j
  unfold seg
  rw [List.extract_eq_take_drop, List.drop_take]
def RecPost (l : Bytes) (w : World) (e : Ending) (w' : World) : Prop :=
  (match parse1 l with
    | some (kv, n) => e = .returned (.tuple #[.string kv.1, .string kv.2, .int .i64 n])
    | none => e = .returned (.tuple #[.string ⟨#[]⟩, .string ⟨#[]⟩, .int .i64 0])) ∧ Below w.heap.size w w'
theorem RecPost.no {l : Bytes} {w w' : World} (h : parse1 l = none) (hb : Below w.heap.size w w') : RecPost l w (.returned (.tuple #[.string ⟨#[]⟩, .string ⟨#[]⟩, .int .i64 0])) w' := by
  unfold RecPost; rw [h]; exact ⟨rfl, hb⟩

set_option maxHeartbeats 4000000 in
set_option maxRecDepth 100000 in
theorem ref_record (s : ByteArray) (w : World) (hs : s.size ≤ 1073741824) : Calls Tryz.prog 39 #[.string s] w (RecPost s.data.toList w) := by
  have mixed : Tryz.prog.follows Departure.mixedOrders = true := by kernel_rfl
  go_enter Tryz.func39, Tryz.ntmps39
  go_wp2_with fail
  go_loopw [5] (fun v5 wr => ∃ a : Nat, v5 = .int .i64 a ∧ a ≤ s.size ∧ Aside0 (∀ i b, i < a → s.data.toList[i]? = some b → b ≠ 32) ∧ wr = w) (fun v5 _ => s.size - (intOf v5).toNat)
  case atStart => exact ⟨0, rfl, by omega, ⟨fun i b hi => by omega⟩, rfl⟩
  case round =>
    obtain ⟨a, rfl, hal, hN, rfl⟩ := hrel
    by_cases ha : a < s.size
    · have hai : decide ((a : Int) < (s.size : Int)) = true := decide_eq_true (by omega)
      have hae : ((a : Int) == (s.size : Int)) = false := by rw [beq_eq_false_iff_ne]; omega
      by_cases hb : s[a] = 32
      · have tb : ((s[a].toNat : Int) == 32) = true := (u8_eq _ _ hb).1
        have tb2 : ((s[a].toNat : Int) != 32) = false := (u8_eq _ _ hb).2
        have ha32 : s.data.toList[a]? = some 32 := by rw [get_dat s a ha, hb]
        have hA := parseA_at (fun i b hi h => hN.out i b hi h) ha32
        obtain ⟨D, hD⟩ : ∃ D, D = s.extract 0 a := ⟨_, rfl⟩
        have hDl : D.data.toList = s.data.toList.take a := by rw [hD]; simp [ByteArray.data_extract]
        have hDs : D.size = a := by rw [hD]; simp; omega
        have h71 : ∀ W, Calls Tryz.prog 71 #[.string D] W fun e w' => e = .returned (.tuple #[.int .i64 (decS D.data.toList).1, .int .i64 (decS D.data.toList).2]) ∧ Drawn0 W w' := fun W => ref_decimal D W (by omega)
        have hrg := decS_range D.data.toList
        rw [← hDl] at hA
        obtain ⟨v, hv⟩ : ∃ v, v = (decS D.data.toList).1 := ⟨_, rfl⟩
        obtain ⟨er, her⟩ : ∃ er, er = (decS D.data.toList).2 := ⟨_, rfl⟩
        rw [← hv, ← her] at h71 hA hrg
        have H71 := Aside0.mk h71
        have HD := Aside0.mk hD
        have HDL := Aside0.mk hDl
        have HA := Aside0.mk hA
        clear h71 hb ha32 hA hDl hD her hv
        obtain ⟨hv0, hv1, he0, he1⟩ := hrg
        by_cases c1 : er = 0
        · have t1 : (er != 0) = false := by rw [c1]; rfl
          by_cases c2 : (a : Int) + 2 ≤ v
          · have t2 : decide (v < (a : Int) + 2) = false := decide_eq_false (by omega)
            have t2n : ¬ (v < (a : Int) + 2) := by omega
            by_cases c3 : v ≤ (s.size : Int)
            · have t3 : decide ((s.size : Int) < v) = false := decide_eq_false (by omega)
              have t3n : ¬ ((s.size : Int) < v) := by omega
              obtain ⟨n, hn⟩ : ∃ n : Nat, v = n := ⟨v.toNat, by omega⟩
              subst hn
              obtain ⟨q, hq⟩ : ∃ q, n = q + 1 := ⟨n - 1, by omega⟩
              have hqi : (n : Int) - 1 = (q : Int) := by omega
              have hqs : q < s.size := by omega
              have hwa : IntKind.i64.wrap ((a : Int) + 2) = (a : Int) + 2 := by rw [IntKind.wrap_i64]; omega
              have hwq : IntKind.i64.wrap (q : Int) = (q : Int) := by rw [IntKind.wrap_i64]; omega
              have hns : n ≤ s.size := by omega
              have hnd : decide (s.size < n) = false := decide_eq_false (by omega)
              have h35 := fun W => ref_digits n W (by omega)
              obtain ⟨G, hG⟩ : ∃ G, G = str (Lib.decDigits n) := ⟨_, rfl⟩
              rw [← hG] at h35
              have H35 := Aside0.mk h35
              have HG := Aside0.mk hG
              have HQ := Aside0.mk hq
              have HC1 := Aside0.mk c1
              clear h35 hG hq c1
              by_cases c4 : G = D
              · have t4 : (G.toList == (s.extract 0 a).toList) = true := by rw [← HD.out, c4]; exact beq_self_eq_true _
                have t4n : G.toList = (s.extract 0 a).toList := by rw [← HD.out, c4]
                have HA2 : Aside0 (parseA s.data.toList = some (D.data.toList, n)) := ⟨by
                  rw [HA.out, if_neg, Int.toNat_natCast]
                  rw [itoa_dec, ← c4, HG.out, data_str]
                  have : s.data.toList.length = s.size := rfl
                  have := HC1.out
                  simp
                  omega⟩
                clear c4
                by_cases c5 : s[q] = 10
                · have t5 : ((s[q].toNat : Int) != 10) = false := (u8_eq _ _ c5).2
                  have t5e : ((s[q].toNat : Int) == 10) = true := (u8_eq _ _ c5).1
                  have hs10 : s.data.toList[q]? = some 10 := by rw [get_dat s q hqs, c5]
                  have hDn : D.data.toList.length = a := hDs
                  have hll : s.data.toList.length = s.size := rfl
                  have HY : Aside0 (∀ k, a + 1 ≤ k → k < q → (∀ i b, a + 1 ≤ i → i < k → s.data.toList[i]? = some b → b ≠ 61) → s.data.toList[k]? = some 61 → parse1 s.data.toList = if seg s.data.toList (a + 1) k = [] then none else some ((str (seg s.data.toList (a + 1) k), str (seg s.data.toList (k + 1) q)), n)) := ⟨fun k h1 h2 h3 h4 => by
                    have hq := HQ.out
                    rw [parse1_of HA2.out, hDn, seg_split _ (a + 1) k n h1 (by omega) (by omega), seg_split _ k (k + 1) n (by omega) (by omega) (by omega), seg_one _ k 61 h4, seg_split _ (k + 1) q n (by omega) (by omega) (by omega), hq, seg_one _ q 10 hs10]
                    rw [show seg s.data.toList (a + 1) k ++ ([61] ++ (seg s.data.toList (k + 1) q ++ [10])) = seg s.data.toList (a + 1) k ++ 61 :: (seg s.data.toList (k + 1) q ++ [10]) from rfl]
                    rw [parseB_yes (fun b hb => by
                      obtain ⟨j, hj1, hj2, hj3⟩ := seg_mem hb
                      exact h3 j b hj1 hj2 hj3)]
                    split <;> rfl⟩
                  have HNo : Aside0 ((∀ i b, a + 1 ≤ i → i < q → s.data.toList[i]? = some b → b ≠ 61) → parse1 s.data.toList = none) := ⟨fun h3 => by
                    have hq := HQ.out
                    rw [parse1_of HA2.out, hDn, parseB_no]
                    · rfl
                    · intro b hb
                      obtain ⟨j, hj1, hj2, hj3⟩ := seg_mem hb
                      rcases Nat.lt_or_ge j q with h5 | h5
                      · exact h3 j b hj1 h5 hj3
                      · obtain rfl : j = q := by omega
                        rw [hs10] at hj3
                        rw [← Option.some.inj hj3]; decide⟩
                  have haq : a + 1 ≤ q := by have := HQ.out; omega
                  have hwa1 : IntKind.i64.wrap ((a : Int) + 1) = (a : Int) + 1 := by rw [IntKind.wrap_i64]; omega
                  clear c5 hs10 hDn hll
                  go_wp2_with (first | (go_at_call 71; rw [← HD.out]; refine (H71.out _).mono ?_; rintro e w1 ⟨rfl, nd, rfl⟩; have B1 := Aside0.mk (pw_below_drewN (Below.refl wr.heap.size wr) nd); generalize wr.drewN nd = w1 at *))
                  refine region_below wr mixed (by kernel_rfl) B1.out ?_
                  repeat (quiet_step (first | (go_at_call 35; refine Calls.of_below (H35.out _))))
                  refine wpQuiet_nil ?_
                  intro w2 hw9
                  have hb2 : Below wr.heap.size wr w2 := by obtain ⟨p, rfl⟩ := hw9; exact p.h
                  clear hw9
                  have B2 := Aside0.mk hb2
                  clear hb2 B1
                  go_wp2_with fail
                  go_loopw [8] (fun v8 wx => ∃ k : Nat, v8 = .int .i64 k ∧ a + 1 ≤ k ∧ k ≤ q ∧ Aside0 (∀ i b, a + 1 ≤ i → i < k → s.data.toList[i]? = some b → b ≠ 61) ∧ wx = w2) (fun v8 _ => q - (intOf v8).toNat)
                  case atStart => exact ⟨a + 1, by push_cast; rfl, by omega, by omega, ⟨fun i b h1 h2 => by omega⟩, rfl⟩
                  case round =>
                    obtain ⟨k, rfl, hk0, hkq, hM, rfl⟩ := hrel
                    by_cases hk : k < q
                    · have hks : k < s.size := by omega
                      have hki : (k : Int) < (q : Int) := by omega
                      by_cases hb : s[k] = 61
                      · have tk : ((s[k].toNat : Int) == 61) = true := (u8_eq _ _ hb).1
                        have HR : Aside0 (parse1 s.data.toList = if seg s.data.toList (a + 1) k = [] then none else some ((str (seg s.data.toList (a + 1) k), str (seg s.data.toList (k + 1) q)), n)) := ⟨HY.out k hk0 hk hM.out (by rw [get_dat s k hks, hb])⟩
                        clear hb
                        by_cases hke : k = a + 1
                        · have tke : ((k : Int) == (a : Int) + 1) = true := by rw [beq_iff_eq]; omega
                          have HP : Aside0 (parse1 s.data.toList = none) := ⟨by rw [HR.out, if_pos]; unfold seg; rw [hke]; exact List.drop_of_length_le (by rw [List.length_take]; omega)⟩
                          clear hke
                          go_wp2_with fail
                          go_ret3
                          exact RecPost.no HP.out B2.out
                        · have tke : ((k : Int) == (a : Int) + 1) = false := by rw [beq_eq_false_iff_ne]; omega
                          have e1 : s.extract (a + 1) k = str (seg s.data.toList (a + 1) k) := ext_seg s (a + 1) k
                          have e2 : s.extract (k + 1) q = str (seg s.data.toList (k + 1) q) := ext_seg s (k + 1) q
                          have HP : Aside0 (parse1 s.data.toList = some ((str (seg s.data.toList (a + 1) k), str (seg s.data.toList (k + 1) q)), n)) := ⟨by
                            rw [HR.out, if_neg]
                            intro h
                            have := congrArg List.length h
                            rw [seg_len (by have : s.data.toList.length = s.size := rfl; omega)] at this
                            simp at this
                            omega⟩
                          have hwk1 : IntKind.i64.wrap ((k : Int) + 1) = (k : Int) + 1 := by rw [IntKind.wrap_i64]; omega
                          have hb1 : (a : Int) + 1 ≤ (k : Int) := by omega
                          have hb2 : (k : Int) + 1 ≤ (q : Int) := by omega
                          have hsl1 : ∀ W, (Instr.slice 9 (.string s) (some (.int .i64 ((a : Int) + 1))) (some (.int .i64 k)) none).run Tryz.prog W = .ok (.string (str (seg s.data.toList (a + 1) k))) W := fun W => by
                            rw [run_slice_string W 9 s .i64 .i64 ((a : Int) + 1) (k : Int) Tryz.underlying9 (by omega) (by omega) (by omega), ← e1]
                            rfl
                          have hsl2 : ∀ W, (Instr.slice 9 (.string s) (some (.int .i64 ((k : Int) + 1))) (some (.int .i64 q)) none).run Tryz.prog W = .ok (.string (str (seg s.data.toList (k + 1) q))) W := fun W => by
                            rw [run_slice_string W 9 s .i64 .i64 ((k : Int) + 1) (q : Int) Tryz.underlying9 (by omega) (by omega) (by omega), ← e2]
                            rfl
                          have E1 := Aside0.mk e1
                          have E2 := Aside0.mk e2
                          clear hke e1 e2
                          go_wp2_with fail
                          go_quiet (fail)
                          have B3 := Aside0.mk (pw_below_drewN B2.out nq)
                          generalize wr.drewN nq = w3 at *
                          go_wp2_with fail
                          go_ret3
                          refine ⟨?_, B3.out⟩
                          rw [HP.out]
                          rfl
                      · have tk : ((s[k].toNat : Int) == 61) = false := (u8_ne _ _ hb).1
                        have HM : Aside0 (∀ i b, a + 1 ≤ i → i < k + 1 → s.data.toList[i]? = some b → b ≠ 61) := ⟨fun i b h1 h2 h => by
                          rcases Nat.lt_or_ge i k with h5 | h5
                          · exact hM.out i b h1 h5 h
                          · obtain rfl : i = k := by omega
                            rw [get_dat s i hks] at h
                            rw [← Option.some.inj h]; exact hb⟩
                        clear hb
                        go_wp2_with fail
                        go_roundw
                        case rel => exact ⟨k + 1, by push_cast; rfl, by omega, by omega, HM, trivial⟩
                        case measure => simp [intOf]; omega
                    · have hki : ¬ ((k : Int) < (q : Int)) := by omega
                      obtain rfl : k = q := by omega
                      have HP := Aside0.mk (HNo.out hM.out)
                      go_wp2_with fail
                      go_ret3
                      exact RecPost.no HP.out B2.out
                · have t5 : ((s[q].toNat : Int) != 10) = true := (u8_ne _ _ c5).2
                  have t5e : ((s[q].toNat : Int) == 10) = false := (u8_ne _ _ c5).1
                  have HP : Aside0 (parse1 s.data.toList = none) := ⟨by
                    rw [parse1_of HA2.out, parseB_end]
                    · rfl
                    · intro x hx
                      have hsl : (seg s.data.toList (D.data.toList.length + 1) n).length = n - (D.data.toList.length + 1) := seg_len (by have : s.data.toList.length = s.size := rfl; have := HQ.out; omega)
                      have hDn : D.data.toList.length = a := hDs
                      rw [List.getLast?_eq_getElem?, hsl, seg_get, if_pos (by omega)] at hx
                      rw [show D.data.toList.length + 1 + (n - (D.data.toList.length + 1) - 1) = q by have := HQ.out; omega, get_dat s q hqs] at hx
                      rw [← Option.some.inj hx]; exact c5⟩
                  clear c5
                  go_wp2_with (first | (go_at_call 71; rw [← HD.out]; refine (H71.out _).mono ?_; rintro e w1 ⟨rfl, nd, rfl⟩; have B1 := Aside0.mk (pw_below_drewN (Below.refl wr.heap.size wr) nd); generalize wr.drewN nd = w1 at *))
                  refine region_below wr mixed (by kernel_rfl) B1.out ?_
                  repeat (quiet_step (first | (go_at_call 35; refine Calls.of_below (H35.out _))))
                  refine wpQuiet_nil ?_
                  intro w2 hw9
                  have hb2 : Below wr.heap.size wr w2 := by obtain ⟨p, rfl⟩ := hw9; exact p.h
                  clear hw9
                  have B2 := Aside0.mk hb2
                  go_wp2_with fail
                  go_ret3
                  exact RecPost.no HP.out B2.out
              · have t4 : (G.toList == (s.extract 0 a).toList) = false := by
                  rw [← HD.out, beq_eq_false_iff_ne]; intro e; exact c4 (tl_inj e)
                have t4n : ¬ (G.toList = (s.extract 0 a).toList) := by rw [← HD.out]; intro e; exact c4 (tl_inj e)
                have HP : Aside0 (parse1 s.data.toList = none) := ⟨parse1_noA (by
                  rw [HA.out, if_pos]
                  right; left
                  rw [itoa_dec]
                  intro e
                  exact c4 (by rw [HG.out, e, str_data]))⟩
                clear c4
                go_wp2_with (first | (go_at_call 71; rw [← HD.out]; refine (H71.out _).mono ?_; rintro e w1 ⟨rfl, nd, rfl⟩; have B1 := Aside0.mk (pw_below_drewN (Below.refl wr.heap.size wr) nd); generalize wr.drewN nd = w1 at *))
                refine region_below wr mixed (by kernel_rfl) B1.out ?_
                repeat (quiet_step (first | (go_at_call 35; refine Calls.of_below (H35.out _))))
                refine wpQuiet_nil ?_
                intro w2 hw9
                have hb2 : Below wr.heap.size wr w2 := by obtain ⟨p, rfl⟩ := hw9; exact p.h
                clear hw9
                have B2 := Aside0.mk hb2
                go_wp2_with fail
                go_ret3
                exact RecPost.no HP.out B2.out
            · have t3 : decide ((s.size : Int) < v) = true := decide_eq_true (by omega)
              have t3n : (s.size : Int) < v := by omega
              have HP : Aside0 (parse1 s.data.toList = none) := ⟨parse1_noA (by rw [HA.out, if_pos (.inr (.inr (.inl (by have : s.data.toList.length = s.size := rfl; omega))))])⟩
              clear c1
              go_wp2_with (first | (go_at_call 71; rw [← HD.out]; refine (H71.out _).mono ?_; rintro e w1 ⟨rfl, nd, rfl⟩; have B1 := Aside0.mk (pw_below_drewN (Below.refl wr.heap.size wr) nd); generalize wr.drewN nd = w1 at *))
              go_quiet (fail)
              have B2 := Aside0.mk (pw_below_drewN B1.out nq)
              generalize w1.drewN nq = w2 at *
              go_wp2_with fail
              go_ret3
              exact RecPost.no HP.out B2.out
          · have t2 : decide (v < (a : Int) + 2) = true := decide_eq_true (by omega)
            have t2n : v < (a : Int) + 2 := by omega
            have HP : Aside0 (parse1 s.data.toList = none) := ⟨parse1_noA (by rw [HA.out, if_pos (.inr (.inr (.inr (by omega))))])⟩
            clear c1
            go_wp2_with (first | (go_at_call 71; rw [← HD.out]; refine (H71.out _).mono ?_; rintro e w1 ⟨rfl, nd, rfl⟩; have B1 := Aside0.mk (pw_below_drewN (Below.refl wr.heap.size wr) nd); generalize wr.drewN nd = w1 at *))
            go_quiet (fail)
            have B2 := Aside0.mk (pw_below_drewN B1.out nq)
            generalize w1.drewN nq = w2 at *
            go_wp2_with fail
            go_ret3
            exact RecPost.no HP.out B2.out
        · have t1 : (er != 0) = true := by rw [bne_iff_ne]; exact c1
          have HP : Aside0 (parse1 s.data.toList = none) := ⟨parse1_noA (by rw [HA.out, if_pos (.inl c1)])⟩
          clear c1
          go_wp2_with (first | (go_at_call 71; rw [← HD.out]; refine (H71.out _).mono ?_; rintro e w1 ⟨rfl, nd, rfl⟩; have B1 := Aside0.mk (pw_below_drewN (Below.refl wr.heap.size wr) nd); generalize wr.drewN nd = w1 at *))
          go_quiet (fail)
          have B2 := Aside0.mk (pw_below_drewN B1.out nq)
          generalize w1.drewN nq = w2 at *
          go_wp2_with fail
          go_ret3
          exact RecPost.no HP.out B2.out
      · have tb : ((s[a].toNat : Int) == 32) = false := (u8_ne _ _ hb).1
        have tb2 : ((s[a].toNat : Int) != 32) = true := (u8_ne _ _ hb).2
        have HN : Aside0 (∀ i b, i < a + 1 → s.data.toList[i]? = some b → b ≠ 32) := ⟨fun i b hi h => by
          rcases Nat.lt_or_ge i a with h1 | h1
          · exact hN.out i b h1 h
          · obtain rfl : i = a := by omega
            rw [get_dat s i ha] at h
            rw [← Option.some.inj h]; exact hb⟩
        clear hb
        go_wp2_with fail
        go_roundw
        case rel => exact ⟨a + 1, by push_cast; rfl, ha, HN, trivial⟩
        case measure => simp [intOf]; omega
    · have hai : decide ((a : Int) < (s.size : Int)) = false := decide_eq_false (by omega)
      have hae : ((a : Int) == (s.size : Int)) = true := by rw [beq_iff_eq]; omega
      have HP : Aside0 (parse1 s.data.toList = none) := ⟨parse1_nospace fun i b hi h => hN.out i b (by have : s.data.toList.length = s.size := rfl; omega) h⟩
      go_wp2_with fail
      go_ret3
      exact RecPost.no HP.out (Below.refl _ _)
end Go.Proofs.YtkmcbpkciakmeaaGreatDoor.PA

/- The document's Parse answers what the program's does; nothing turns but new blocks and the orders drawn. -/
set_option linter.unusedVariables false
set_option linter.unusedSimpArgs false
namespace Go.Proofs.YtkmcbpkciakmeaaGreatDoor.PA
open Go.RowKit Go.Proofs.YtkmcbpkciakmeaaGreatDoorW.PrintWords Go.Proofs.YtkmcbpkciakmeaaGreatDoorW.PrintLast Go.Proofs.YtkmcbpkciakmeaaGreatDoorW.PrintMore

theorem parseGo_len : ∀ (f : Nat) (l : Bytes) (xs : List KV), parseGo f l = some xs → xs.length ≤ f
  | 0, l, xs, h => by rw [parseGo] at h; injection h with h; subst h; simp
  | f + 1, l, xs, h => by
    rw [parseGo] at h
    split at h
    · injection h with h; subst h; simp
    · split at h
      · cases h
      · rename_i kv n _
        cases hg : parseGo f (l.drop n) with
        | none => rw [hg] at h; cases h
        | some ys =>
          rw [hg] at h
          have := parseGo_len f _ ys hg
          injection h with h
          subst h
          simp only [List.length_cons]
          omega

set_option maxHeartbeats 2000000 in
set_option maxRecDepth 100000 in
theorem ref_parse_calls (s : ByteArray) (w : World) (hs : s.size ≤ 1073741824) :
    Calls Tryz.prog 19 #[.string s] w (ParsePost s w) := by
  go_enter Tryz.func19, Tryz.ntmps19
  go_wp2_with fail
  go_loopw [0, 4] (fun v0 v4 wr => ∃ (t : ByteArray) (acc : List KV), v0 = .string t ∧ Aside0 (PrAt s.data.toList acc t.data.toList) ∧ Aside0 (Kd.R k39 39 wr w.heap.size (fun _ => True) v4 acc) ∧ Aside0 (Below w.heap.size w wr)) (fun v0 _ _ => match v0 with | .string t => t.size | _ => 0)
  case atStart => exact ⟨s, [], rfl, ⟨⟨by simp, by simp⟩⟩, ⟨Kd.R_nil _ _ _ _ _⟩, ⟨Below.refl _ _⟩⟩
  case round =>
    obtain ⟨t, acc, rfl, hA, hR, hB⟩ := hrel
    have hts : t.size ≤ 1073741824 := by have := hA.out.len; rw [data_length, data_length] at this; omega
    have hal : acc.length ≤ 1073741824 := by have := hA.out.len; rw [data_length, data_length] at this; omega
    by_cases h0 : 0 < t.size
    · have h0i : (0 : Int) < (t.size : Int) := by omega
      have hd0 : t.data.toList ≠ [] := by
        intro h
        have h2 : t.data.toList.length = 0 := by rw [h]; rfl
        rw [data_length] at h2
        omega
      have h39 := ref_record t wr hts
      unfold RecPost at h39
      cases hp : parse1 t.data.toList with
      | none =>
        rw [hp] at h39
        have HF : Aside0 (parseS s.data.toList = none) := ⟨by rw [hA.out.eq, parseS_none hd0 hp]; rfl⟩
        have H39 := Aside0.mk h39
        clear h39 hp hd0
        go_wp2_with (first | (go_at_call 39; refine (H39.out).mono ?_; rintro e w1 ⟨h1, hb1⟩; dsimp only at h1; subst h1))
        go_ret2
        exact ⟨.inl ⟨HF.out, rfl⟩, below_then hB.out hB.out.size hb1⟩
      | some x =>
        obtain ⟨kv, n⟩ := x
        rw [hp] at h39
        obtain ⟨hn1, hn2⟩ := parse1_pos hp
        rw [data_length] at hn2
        have HN : Aside0 (PrAt s.data.toList (acc ++ [kv]) (t.data.toList.drop n)) := ⟨hA.out.step hp⟩
        have hdrop : (t.extract n t.size).data.toList = t.data.toList.drop n := by simp [ByteArray.data_extract]; exact List.take_of_length_le (by simp)
        have HDR := Aside0.mk hdrop
        have hne : ((n : Int) == 0) = false := by rw [beq_eq_false_iff_ne]; omega
        have hsz : (t.extract n t.size).size = t.size - n := by simp
        obtain ⟨k0, k1⟩ := kv
        have H39 := Aside0.mk h39
        clear h39 hp hd0 hdrop
        go_wp2_with (first | (go_at_call 39; refine (H39.out).mono ?_; rintro e w1 ⟨h1, hb1⟩; dsimp only at h1; subst h1; have B1 := Aside0.mk (below_then hB.out hB.out.size hb1); have R1 := Aside0.mk (Kd.R_below hR.out hb1)) | ((with_reducible refine gate_builtin (b := .append) (xs := #[.tmp 19, .tmp 23]) rfl ?_); at_builtin; refine Kd.R_append k39 (w0 := w) w.heap.size rfl (.tmp 19) (.tmp 23) 34 39 (.agg #[.string ⟨#[]⟩, .string ⟨#[]⟩]) 32 rfl under34 info39 rfl (by decide) (by omega) u4 acc (k0, k1) [.string k0, .string k1] (fun _ => True) (fun _ => False) rfl rfl ?aP (fun _ hk => hk.elim) ?aF ?aO ?aB ?aS ?aL ?_; (case aP => exact k39_mkM _ _ _ (k0, k1)); (case aB => exact B1.out); (case aF => exact (fun _ _ => trivial)); (case aO => exact R1.out); (case aS => exact B1.out.size); (case aL => omega); intro v5 w5 ho hb5 hg hat; have hO5 := Aside0.mk ho; have HB5 := Aside0.mk hb5; clear ho hg hat hb5))
        go_roundw
        case rel => exact ⟨_, _, rfl, ⟨by rw [HDR.out]; exact HN.out⟩, hO5, HB5⟩
        case measure => show (t.extract n t.size).size < t.size; rw [hsz]; omega
    · have h0i : ¬ ((0 : Int) < (t.size : Int)) := by omega
      have hd0 : t.data.toList = [] := List.eq_nil_of_length_eq_zero (by rw [data_length]; omega)
      have HF : Aside0 (parseS s.data.toList = some acc) := ⟨by rw [hA.out.eq, hd0, parseS_nil]; simp⟩
      clear hd0
      go_wp2_with fail
      go_ret2
      exact ⟨.inr ⟨acc, _, HF.out, rfl, hR.out⟩, hB.out⟩
end Go.Proofs.YtkmcbpkciakmeaaGreatDoor.PA
