/- The document's answer: trees checked. -/
import Derived.Test.YtkmcbpkciakmeaaGreatDoorMprintedc
import Derived.Test.YtkmcbpkciakmeaaGreatDoorMref
import Derived.Test.YtkmcbpkciakmeaaGreatDoorMprintedb
import Derived.Test.YtkmcbpkciakmeaaGreatDoorMnames
import Derived.Test.YtkmcbpkciakmeaaGreatDoorMcheck
import Derived.Lib.ValidLaws

/- The document's Letter and Valid, in plain Lean: a text is UTF-8 as Go's library says. -/
set_option linter.unusedVariables false
set_option linter.unusedSimpArgs false
namespace Go.Proofs.YtkmcbpkciakmeaaGreatDoor.PA
open Go.RowKit Go.Proofs.YtkmcbpkciakmeaaGreatDoorW.PrintWords Go.Proofs.YtkmcbpkciakmeaaGreatDoorW.PrintLast Go.Proofs.YtkmcbpkciakmeaaGreatDoorW.PrintMore

/-- How many bytes the letter has that a text begins with; 0: there is none. -/
def letW (n b0 b1 b2 b3 : Nat) : Nat := if (Lib.decodeN n b0 b1 b2 b3).1 = 65533 ∧ (Lib.decodeN n b0 b1 b2 b3).2 = 1 then 0 else (Lib.decodeN n b0 b1 b2 b3).2

theorem bt_getD (s : ByteArray) (i : Nat) : bt s (i : Int) = ((s.data.toList.getD i 0).toNat : Int) := by
  unfold bt
  rw [Int.toNat_natCast]
  split
  · rename_i h
    have : i < s.data.toList.length := h
    rw [List.getD_eq_getElem?_getD, List.getElem?_eq_getElem this]
    rfl
  · rename_i h
    have : ¬ i < s.data.toList.length := h
    rw [List.getD_eq_getElem?_getD, List.getElem?_eq_none (by omega)]
    rfl

theorem decodeN_fits (n b0 b1 b2 b3 : Nat) (h : 0 < n) : (Lib.decodeN n b0 b1 b2 b3).2 ≤ n := by
  unfold Lib.decodeN
  repeat' split
  all_goals (simp only []; omega)
theorem letW_bad {n b0 b1 b2 b3 : Nat} (h : Lib.decodeN n b0 b1 b2 b3 = (65533, 1)) : letW n b0 b1 b2 b3 = 0 := by unfold letW; rw [h]; rfl
theorem letW_ok {n b0 b1 b2 b3 v w : Nat} (h : Lib.decodeN n b0 b1 b2 b3 = (v, w)) (hw : w ≠ 1) : letW n b0 b1 b2 b3 = w := by unfold letW; rw [h, if_neg (by simp; omega)]

set_option maxHeartbeats 4000000 in
theorem let_end (s : ByteArray) (k n : Nat) (x5 x6 x7 : Int) (h : 0 ≤ x7 ∧ x7 ≤ 4611686018427387904) (hi : ¬ (n : Int) < x5) :
    wainloadref14_Letter.l0 (k + 1) s x5 x6 x7 (n : Int) = some (if x7 < x6 ∨ x7 > 1114111 ∨ (55296 ≤ x7 ∧ x7 ≤ 57343) then (0, 0) else (x7, x5)) := by
  rw [wainloadref14_Letter.l0, if_neg hi]
  repeat' split
  all_goals first | rfl | (exfalso; omega)
theorem let_go (s : ByteArray) (k n : Nat) (x5 x6 x7 : Int) (h : 0 ≤ x7 ∧ x7 ≤ 2147483648) (hi : (n : Int) < x5) (hn : n ≤ 4) (hs : n < s.size) (b : Nat) (hb : b < 256) (he : bt s (n : Int) = b) :
    wainloadref14_Letter.l0 (k + 1) s x5 x6 x7 (n : Int) = if b < 128 ∨ 191 < b then some (0, 0) else wainloadref14_Letter.l0 k s x5 x6 (x7 * 64 + b - 128) ((n + 1 : Nat) : Int) := by
  rw [wainloadref14_Letter.l0, if_pos hi, if_pos (by omega), if_pos (by omega), he]
  rw [w_in (b : Int) (by omega), w_in (x7 * 64) (by omega), w_in (x7 * 64 + (b : Int)) (by omega), w_in (x7 * 64 + (b : Int) - 128) (by omega), w_in ((n : Int) + 1) (by omega)]
  repeat' split
  all_goals first | rfl | (exfalso; omega) | (push_cast; rfl)

set_option maxHeartbeats 4000000 in
set_option maxRecDepth 100000 in
theorem letter_n (s : ByteArray) (k b0 b1 b2 b3 : Nat) (h : 0 < s.size) (h0 : b0 < 256) (h1 : b1 < 256) (h2 : b2 < 256) (h3 : b3 < 256) (e0 : bt s 0 = b0) (e1 : bt s ((1 : Nat) : Int) = b1) (e2 : bt s ((2 : Nat) : Int) = b2) (e3 : bt s ((3 : Nat) : Int) = b3) :
    ∃ v, wainloadref14_Letter.f (k + 12) s = some (v, ((letW s.size b0 b1 b2 b3 : Nat) : Int)) := by
  unfold wainloadref14_Letter.f
  rw [if_neg (by omega), if_pos (by omega), e0, w_in (b0 : Int) (by omega)]
  have hd := Lib.decodeN_bad s.size b0 b1 b2 b3
  by_cases c0 : b0 < 128
  · rw [if_pos (by omega)]
    refine ⟨_, congrArg some (Prod.ext rfl ?_)⟩
    unfold letW Lib.decodeN
    rw [if_pos c0, if_neg (by simp; omega)]
    rfl
  · rw [if_neg (by omega)]
    have tail : ∀ (x5 x6 x7 : Int) (k : Nat), x5 = 0 ∨ (s.size : Int) < x5 → wainloadref14_Letter.j2 (k + 2) s x5 x6 x7 = some (0, 0) := fun x5 x6 x7 k hx => by
      rw [wainloadref14_Letter.j2]
      by_cases hz : x5 = 0
      · rw [if_pos hz, wainloadref14_Letter.j3, if_pos rfl]
      · rw [if_neg hz, wainloadref14_Letter.j3, decide_eq_true (by omega), if_pos rfl]
    have go : ∀ (x5 x6 x7 : Int) (k : Nat), x5 ≠ 0 → ¬ (s.size : Int) < x5 → wainloadref14_Letter.j2 (k + 2) s x5 x6 x7 = wainloadref14_Letter.l0 k s x5 x6 x7 ((1 : Nat) : Int) := fun x5 x6 x7 k hz hx => by
      rw [wainloadref14_Letter.j2, if_neg hz, wainloadref14_Letter.j3, decide_eq_false hx, if_neg (by simp)]; rfl
    by_cases c1 : b0 < 192
    · rw [if_neg (by omega), wainloadref14_Letter.j0, if_neg (by simp), if_neg (by omega), wainloadref14_Letter.j1, if_neg (by simp), if_neg (by omega), tail _ _ _ _ (.inl rfl)]
      refine ⟨_, congrArg some (Prod.ext rfl ?_)⟩
      unfold letW; rw [hd (.inl ⟨by omega, by omega⟩)]; rfl
    · rw [if_pos (by omega)]
      by_cases c2 : b0 < 224
      · rw [decide_eq_true (by omega), wainloadref14_Letter.j0, if_pos rfl, w_in ((b0 : Int) - 192) (by omega)]
        by_cases d1 : s.size < 2
        · rw [tail _ _ _ _ (.inr (by omega))]
          refine ⟨_, congrArg some (Prod.ext rfl ?_)⟩
          unfold letW Lib.decodeN
          repeat' split
          all_goals first | rfl | (exfalso; omega) | (simp_all <;> omega)
        · rw [go _ _ _ _ (by omega) (by omega), let_go s _ 1 _ _ _ (by omega) (by omega) (by omega) (by omega) b1 h1 e1]
          by_cases f1 : b1 < 128 ∨ 191 < b1
          · rw [if_pos f1]
            refine ⟨_, congrArg some (Prod.ext rfl ?_)⟩
            unfold letW Lib.decodeN
            repeat' split
            all_goals first | rfl | (exfalso; omega) | (simp_all <;> omega)
          · rw [if_neg f1, let_end s _ 2 _ _ _ (by omega) (by omega)]
            by_cases g : (b0 : Int) - 192 < 2
            · rw [if_pos (by omega)]
              refine ⟨_, congrArg some (Prod.ext rfl ?_)⟩
              unfold letW; rw [hd (.inl ⟨by omega, by omega⟩)]; rfl
            · rw [if_neg (by omega)]
              refine ⟨_, congrArg some (Prod.ext rfl ?_)⟩
              rw [letW_ok (v := b0 % 32 * 64 + b1 % 64) (w := 2) (by unfold Lib.decodeN; rw [if_neg c0, if_pos ⟨by omega, by omega, by omega⟩, if_pos (by omega)]) (by decide)]; rfl
      · rw [decide_eq_false (by omega), wainloadref14_Letter.j0, if_neg (by simp), if_pos (by omega)]
        by_cases c3 : b0 < 240
        · rw [decide_eq_true (by omega), wainloadref14_Letter.j1, if_pos rfl, w_in ((b0 : Int) - 224) (by omega)]
          have nob : ∀ (P : Prop), ((s.size < 3) ∨ (b1 < 128 ∨ 191 < b1) ∨ (b2 < 128 ∨ 191 < b2)) → letW s.size b0 b1 b2 b3 = 0 := fun _ hx => by
            refine letW_bad ?_
            unfold Lib.decodeN
            rw [if_neg c0, if_neg (by omega), if_neg (by omega), if_neg (by omega)]
          by_cases d1 : s.size < 3
          · rw [tail _ _ _ _ (.inr (by omega)), nob True (.inl d1)]; exact ⟨_, rfl⟩
          · rw [go _ _ _ _ (by omega) (by omega), let_go s _ 1 _ _ _ (by omega) (by omega) (by omega) (by omega) b1 h1 e1]
            by_cases f1 : b1 < 128 ∨ 191 < b1
            · rw [if_pos f1, nob True (.inr (.inl f1))]; exact ⟨_, rfl⟩
            · rw [if_neg f1, let_go s _ 2 _ _ _ (by omega) (by omega) (by omega) (by omega) b2 h2 e2]
              by_cases f2 : b2 < 128 ∨ 191 < b2
              · rw [if_pos f2, nob True (.inr (.inr f2))]; exact ⟨_, rfl⟩
              · rw [if_neg f2, let_end s _ 3 _ _ _ (by omega) (by omega)]
                obtain ⟨v, hv⟩ : ∃ v : Nat, v = b0 % 16 * 4096 + b1 % 64 * 64 + b2 % 64 := ⟨_, rfl⟩
                have hv2 : (((b0 : Int) - 224) * 64 + (b1 : Int) - 128) * 64 + (b2 : Int) - 128 = (v : Int) := by omega
                rw [hv2]
                have hw : letW s.size b0 b1 b2 b3 = if v ≥ 2048 ∧ (v < 55296 ∨ (57344 ≤ v ∧ v ≤ 1114111)) then 3 else 0 := by
                  have hD : Lib.decodeN s.size b0 b1 b2 b3 = if v ≥ 2048 ∧ (v < 55296 ∨ (57344 ≤ v ∧ v ≤ 1114111)) then (v, 3) else (65533, 1) := by
                    unfold Lib.decodeN
                    rw [if_neg c0, if_neg (by omega), if_pos ⟨by omega, by omega, by omega⟩, ← hv]
                  by_cases hg : v ≥ 2048 ∧ (v < 55296 ∨ (57344 ≤ v ∧ v ≤ 1114111))
                  · rw [if_pos hg] at hD ⊢; exact letW_ok hD (by decide)
                  · rw [if_neg hg] at hD ⊢; exact letW_bad hD
                rw [hw]
                by_cases hg : v ≥ 2048 ∧ (v < 55296 ∨ (57344 ≤ v ∧ v ≤ 1114111))
                · rw [if_pos hg, if_neg (by omega)]; exact ⟨_, rfl⟩
                · rw [if_neg hg, if_pos (by omega)]; exact ⟨_, rfl⟩
        · rw [decide_eq_false (by omega), wainloadref14_Letter.j1, if_neg (by simp), if_pos (by omega)]
          by_cases c4 : b0 < 248
          · rw [if_pos (by omega), w_in ((b0 : Int) - 240) (by omega)]
            have nob : ((s.size < 4) ∨ (b1 < 128 ∨ 191 < b1) ∨ (b2 < 128 ∨ 191 < b2) ∨ (b3 < 128 ∨ 191 < b3)) → letW s.size b0 b1 b2 b3 = 0 := fun hx => by
              refine letW_bad ?_
              unfold Lib.decodeN
              rw [if_neg c0, if_neg (by omega), if_neg (by omega), if_neg (by omega)]
            by_cases d1 : s.size < 4
            · rw [tail _ _ _ _ (.inr (by omega)), nob (.inl d1)]; exact ⟨_, rfl⟩
            · rw [go _ _ _ _ (by omega) (by omega), let_go s _ 1 _ _ _ (by omega) (by omega) (by omega) (by omega) b1 h1 e1]
              by_cases f1 : b1 < 128 ∨ 191 < b1
              · rw [if_pos f1, nob (.inr (.inl f1))]; exact ⟨_, rfl⟩
              · rw [if_neg f1, let_go s _ 2 _ _ _ (by omega) (by omega) (by omega) (by omega) b2 h2 e2]
                by_cases f2 : b2 < 128 ∨ 191 < b2
                · rw [if_pos f2, nob (.inr (.inr (.inl f2)))]; exact ⟨_, rfl⟩
                · rw [if_neg f2, let_go s _ 3 _ _ _ (by omega) (by omega) (by omega) (by omega) b3 h3 e3]
                  by_cases f3 : b3 < 128 ∨ 191 < b3
                  · rw [if_pos f3, nob (.inr (.inr (.inr f3)))]; exact ⟨_, rfl⟩
                  · rw [if_neg f3, let_end s _ 4 _ _ _ (by omega) (by omega)]
                    obtain ⟨v, hv⟩ : ∃ v : Nat, v = b0 % 8 * 262144 + b1 % 64 * 4096 + b2 % 64 * 64 + b3 % 64 := ⟨_, rfl⟩
                    have hv2 : ((((b0 : Int) - 240) * 64 + (b1 : Int) - 128) * 64 + (b2 : Int) - 128) * 64 + (b3 : Int) - 128 = (v : Int) := by omega
                    rw [hv2]
                    have hw : letW s.size b0 b1 b2 b3 = if v ≥ 65536 ∧ (v < 55296 ∨ (57344 ≤ v ∧ v ≤ 1114111)) then 4 else 0 := by
                      have hD : Lib.decodeN s.size b0 b1 b2 b3 = if v ≥ 65536 ∧ (v < 55296 ∨ (57344 ≤ v ∧ v ≤ 1114111)) then (v, 4) else (65533, 1) := by
                        unfold Lib.decodeN
                        rw [if_neg c0, if_neg (by omega), if_neg (by omega), if_pos ⟨by omega, by omega, by omega, by omega⟩, ← hv]
                      by_cases hg : v ≥ 65536 ∧ (v < 55296 ∨ (57344 ≤ v ∧ v ≤ 1114111))
                      · rw [if_pos hg] at hD ⊢; exact letW_ok hD (by decide)
                      · rw [if_neg hg] at hD ⊢; exact letW_bad hD
                    rw [hw]
                    by_cases hg : v ≥ 65536 ∧ (v < 55296 ∨ (57344 ≤ v ∧ v ≤ 1114111))
                    · rw [if_pos hg, if_neg (by omega)]; exact ⟨_, rfl⟩
                    · rw [if_neg hg, if_pos (by omega)]; exact ⟨_, rfl⟩
          · rw [if_neg (by omega), tail _ _ _ _ (.inl rfl)]
            refine ⟨_, congrArg some (Prod.ext rfl ?_)⟩
            unfold letW; rw [hd (.inr ⟨by omega, by omega⟩)]; rfl

theorem valid_l0 : ∀ (n : Nat) (s : ByteArray), s.size ≤ n → s.size ≤ 9223372036854775807 → wainloadref14_Valid.l0 (n + 13) s = some (Lib.validD s.data.toList)
  | n, s, hn, hs => by
    by_cases h : 0 < s.size
    · obtain ⟨m, rfl⟩ : ∃ m, n = m + 1 := ⟨n - 1, by omega⟩
      have lt : ∀ i, (s.data.toList.getD i 0).toNat < 256 := fun i => (s.data.toList.getD i 0).toNat_lt
      obtain ⟨v, hv⟩ := letter_n s (m + 1) _ _ _ _ h (lt 0) (lt 1) (lt 2) (lt 3) (bt_getD s 0) (bt_getD s 1) (bt_getD s 2) (bt_getD s 3)
      have hne : s.data.toList ≠ [] := by intro e; have h2 : s.data.toList.length = 0 := by rw [e]; rfl
                                          have : s.data.toList.length = s.size := rfl
                                          omega
      have hll : s.data.toList.length = s.size := rfl
      have hw := Lib.decodeL_width s.data.toList
      rw [show m + 1 + 13 = (m + 1 + 12) + 1 from rfl, wainloadref14_Valid.l0, if_pos (by omega), hv, Option.bind_some, Lib.validD_step _ hne, Lib.decodeL_N, hll]
      rw [Lib.decodeL_N, hll] at hw
      obtain ⟨D, hD⟩ : ∃ D, D = Lib.decodeN s.size (s.data.toList.getD 0 0).toNat (s.data.toList.getD 1 0).toNat (s.data.toList.getD 2 0).toNat (s.data.toList.getD 3 0).toNat := ⟨_, rfl⟩
      have hfit := decodeN_fits s.size (s.data.toList.getD 0 0).toNat (s.data.toList.getD 1 0).toNat (s.data.toList.getD 2 0).toNat (s.data.toList.getD 3 0).toNat h
      unfold letW
      rw [← hD] at hw hfit ⊢
      by_cases hc : D.1 = 65533 ∧ D.2 = 1
      · rw [if_pos hc, if_pos hc]; rfl
      · rw [if_neg hc, if_neg hc, if_neg (by simp only []; omega), if_pos (by simp only []; omega), if_pos (by simp only []; omega)]
        simp only [Int.toNat_natCast]
        have hsz : (s.extract D.2 s.size).size = s.size - D.2 := by simp
        have hdt : (s.extract D.2 s.size).data.toList = s.data.toList.drop D.2 := by simp [ByteArray.data_extract]; exact List.take_of_length_le (by simp)
        rw [show m + 1 + 12 = m + 13 from by omega, valid_l0 m (s.extract D.2 s.size) (by omega) (by omega), hdt]
    · rw [wainloadref14_Valid.l0, if_neg (by omega)]
      have : s.data.toList = [] := List.eq_nil_of_length_eq_zero (by have : s.data.toList.length = s.size := rfl; omega)
      rw [this]; rfl
theorem ref_valid_f (s : ByteArray) (k : Nat) (hk : s.size + 13 ≤ k) (hs : s.size ≤ 9223372036854775807) : wainloadref14_Valid.f k s = some (Lib.validD s.data.toList) := by
  obtain ⟨n, rfl⟩ : ∃ n, k = n + 13 := ⟨k - 13, by omega⟩
  exact valid_l0 n s (by omega) hs
end Go.Proofs.YtkmcbpkciakmeaaGreatDoor.PA

/- The document's Clean and Parents, in plain Lean: they answer what the program's do. -/
set_option linter.unusedVariables false
set_option linter.unusedSimpArgs false
namespace Go.Proofs.YtkmcbpkciakmeaaGreatDoor.PA
open Go.RowKit Go.Proofs.YtkmcbpkciakmeaaGreatDoorW.PrintWords Go.Proofs.YtkmcbpkciakmeaaGreatDoorW.PrintLast Go.Proofs.YtkmcbpkciakmeaaGreatDoorW.PrintMore

theorem bt_at (s : ByteArray) (i : Nat) (c : UInt8) (h : s.data.toList[i]? = some c) : bt s (i : Int) = (c.toNat : Int) := by
  rw [bt_getD, List.getD_eq_getElem?_getD, h]; rfl
theorem bt_is (c : UInt8) (n : Nat) (hn : n < 256) : ((c.toNat : Int) = (n : Int)) ↔ c = UInt8.ofNat n := by
  constructor
  · intro h
    apply UInt8.toNat_inj.1
    rw [UInt8.toNat_ofNat', Nat.mod_eq_of_lt hn]
    omega
  · rintro rfl
    rw [UInt8.toNat_ofNat', Nat.mod_eq_of_lt hn]
theorem bt47 (c : UInt8) : ((c.toNat : Int) = 47) ↔ c = 47 := bt_is c 47 (by decide)
theorem bt0 (c : UInt8) : ((c.toNat : Int) = 0) ↔ c = 0 := bt_is c 0 (by decide)
theorem dat_len (s : ByteArray) : s.data.toList.length = s.size := rfl
theorem extract_str (s : ByteArray) (a b : Nat) : s.extract a b = str ((s.data.toList.drop a).take (b - a)) := by
  apply ByteArray.ext
  apply Array.ext'
  rw [ByteArray.data_extract, Array.toList_extract]
  show List.extract s.data.toList a b = (s.data.toList.drop a).take (b - a)
  rw [List.extract_eq_take_drop]

theorem parts_l0 (s : ByteArray) (hs : s.size ≤ 1073741824) : ∀ (d i from_ k : Nat) (acc : List ByteArray), i + d = s.size → from_ ≤ i → acc.length ≤ i → (∀ j b, from_ ≤ j → j < i → s.data.toList[j]? = some b → b ≠ 47) → d + 2 ≤ k →
    wainloadref14_parts.l0 k s acc (from_ : Int) (i : Int) = some (acc ++ (split1 (s.data.toList.drop from_) 47).map str)
  | 0, i, from_, k, acc, hi, hf, ha, hn, hk => by
    obtain ⟨k, rfl⟩ : ∃ k', k = k' + 2 := ⟨k - 2, by omega⟩
    rw [wainloadref14_parts.l0, if_pos (by omega), if_pos (by omega), if_pos (by omega), if_pos (by omega), if_pos (by omega), w_in ((i : Int) + 1) (by omega), wainloadref14_parts.l0, if_neg (by omega)]
    have hno : ∀ b ∈ s.data.toList.drop from_, b ≠ 47 := by
      intro b hb
      obtain ⟨j, hj⟩ := List.mem_iff_getElem?.1 hb
      rw [List.getElem?_drop] at hj
      have hlt : from_ + j < s.data.toList.length := by
        rcases Nat.lt_or_ge (from_ + j) s.data.toList.length with h | h
        · exact h
        · rw [List.getElem?_eq_none h] at hj; cases hj
      rw [dat_len] at hlt
      exact hn (from_ + j) b (by omega) (by omega) hj
    rw [split1_none hno, Int.toNat_natCast, Int.toNat_natCast, extract_str]
    have : (s.data.toList.drop from_).take (i - from_) = s.data.toList.drop from_ := List.take_of_length_le (by rw [List.length_drop, dat_len]; omega)
    rw [this]; rfl
  | d + 1, i, from_, k, acc, hi, hf, ha, hn, hk => by
    obtain ⟨k, rfl⟩ : ∃ k', k = k' + 1 := ⟨k - 1, by omega⟩
    have hlt : i < s.data.toList.length := by rw [dat_len]; omega
    obtain ⟨c, hc⟩ : ∃ c, s.data.toList[i]? = some c := ⟨_, List.getElem?_eq_getElem hlt⟩
    rw [wainloadref14_parts.l0, if_pos (by omega), if_neg (by omega), if_pos (by omega), if_pos (by omega), bt_at s i c hc]
    by_cases h47 : c = 47
    · rw [if_pos ((bt47 c).2 h47), if_pos (by omega), if_pos (by omega), if_pos (by omega), w_in ((i : Int) + 1) (by omega), Int.toNat_natCast, Int.toNat_natCast]
      rw [show ((i : Int) + 1) = ((i + 1 : Nat) : Int) by push_cast; rfl]
      rw [parts_l0 s hs d (i + 1) (i + 1) k _ (by omega) (Nat.le_refl _) (by rw [List.length_append]; simp; omega) (fun j b h1 h2 => by omega) (by omega)]
      have hsp : s.data.toList.drop from_ = (s.data.toList.drop from_).take (i - from_) ++ 47 :: s.data.toList.drop (i + 1) := by
        conv => lhs; rw [← List.take_append_drop (i - from_) (s.data.toList.drop from_)]
        congr 1
        rw [List.drop_drop, show from_ + (i - from_) = i by omega, List.drop_eq_getElem_cons hlt]
        rw [List.getElem?_eq_getElem hlt] at hc
        injection hc with hc
        rw [hc, h47]
      rw [extract_str]
      conv => rhs; rw [hsp]
      rw [split1_at (a := (s.data.toList.drop from_).take (i - from_))]
      · simp
      · intro b hb
        obtain ⟨j, hj⟩ := List.mem_iff_getElem?.1 hb
        rw [List.getElem?_take] at hj
        split at hj
        · rw [List.getElem?_drop] at hj; exact hn (from_ + j) b (by omega) (by omega) hj
        · cases hj
    · rw [if_neg (fun h => h47 ((bt47 c).1 h)), w_in ((i : Int) + 1) (by omega), show ((i : Int) + 1) = ((i + 1 : Nat) : Int) by push_cast; rfl]
      refine parts_l0 s hs d (i + 1) from_ k acc (by omega) (by omega) (by omega) (fun j b h1 h2 hj => ?_) (by omega)
      rcases Nat.lt_or_ge j i with h | h
      · exact hn j b h1 h hj
      · obtain rfl : j = i := by omega
        rw [hc] at hj; injection hj with hj; rw [← hj]; exact h47
theorem parts_f (s : ByteArray) (hs : s.size ≤ 1073741824) (k : Nat) (hk : s.size + 2 ≤ k) : wainloadref14_parts.f k s = some ((split1 s.data.toList 47).map str) := by
  have := parts_l0 s hs s.size 0 0 k [] (by omega) (Nat.le_refl _) (by simp) (fun j b h1 h2 => by omega) hk
  simpa [wainloadref14_parts.f] using this

theorem Lib.join_snoc : ∀ (xs : List (List UInt8)) (x : List UInt8), xs ≠ [] → Lib.join (xs ++ [x]) [47] = Lib.join xs [47] ++ [47] ++ x
  | [], x, h => absurd rfl h
  | a :: r, x, _ => by
    rw [List.cons_append, Lib.join_cons, Lib.join_cons]
    simp [Lib.joinTail, List.append_assoc]
theorem rdOf_at (ps : List ByteArray) (i : Nat) (x : ByteArray) (h : ps[i]? = some x) : rdOf ByteArray.empty ps (i : Int) = x := by
  unfold rdOf
  rw [Int.toNat_natCast, List.getD_eq_getElem?_getD, h]; rfl
def joinS (acc : List ByteArray) : Bytes := Lib.join (acc.map (·.data.toList)) [47]
theorem joinS_snoc (acc : List ByteArray) (x : ByteArray) : joinS (acc ++ [x]) = if acc = [] then x.data.toList else joinS acc ++ [47] ++ x.data.toList := by
  unfold joinS
  rw [List.map_append, List.map_cons, List.map_nil]
  by_cases h : acc = []
  · subst h; rw [if_pos rfl]; simp [Lib.join_one]
  · rw [if_neg h, Lib.join_snoc _ _ (by simpa using h)]
theorem joinS_nil {acc : List ByteArray} (h : ∀ x ∈ acc, x.data.toList ≠ []) : joinS acc = [] ↔ acc = [] := by
  constructor
  · intro h2
    cases acc with
    | nil => rfl
    | cons a r =>
      exfalso
      unfold joinS at h2
      rw [List.map_cons, Lib.join_cons] at h2
      exact h a (by simp) (List.append_eq_nil_iff.1 h2).1
  · rintro rfl; rfl
theorem keep_ne {ps : List ByteArray} : ∀ x ∈ ps.filter keepPart, x.data.toList ≠ [] := by
  intro x hx h
  have := (List.mem_filter.1 hx).2
  unfold keepPart at this
  rw [h] at this
  simp at this
theorem tl_data (s : ByteArray) : s.toList = s.data.toList := Lib.toList_data s
theorem tot_sub {a b : List Bytes} (h : a.Sublist b) : tot a ≤ tot b := by
  induction h with
  | slnil => exact Nat.le_refl _
  | cons x _ ih => rw [tot_cons]; omega
  | cons_cons x _ ih => rw [tot_cons, tot_cons]; omega
theorem joinS_le (l : Bytes) (k : Nat) : (joinS ((((split1 l 47).map str).take k).filter keepPart)).length ≤ l.length + 1 := by
  unfold joinS
  refine Nat.le_trans (join_cons_le 47 _) ?_
  have e : tot (((((split1 l 47).map str).take k).filter keepPart).map (·.data.toList)) ≤ tot (((split1 l 47).map str).map (·.data.toList)) := by
    exact tot_sub ((List.filter_sublist.trans (List.take_sublist _ _)).map _)
  refine Nat.le_trans e ?_
  rw [List.map_map]
  have : (fun x : ByteArray => x.data.toList) ∘ str = id := by funext x; simp [str]
  rw [this, List.map_id, tot_split]
  exact Nat.le_refl _

theorem cleanEnd_fin {ps acc : List ByteArray} (h1 : ps.any (fun x => x.data.toList == [46, 46]) = false) (h2 : acc = ps.filter keepPart) : cleanEnd ps = if joinS acc = [] ∨ 200 < (joinS acc).length then ([], 140) else (joinS acc, 0) := by
  unfold cleanEnd
  rw [h1, if_neg (by simp), ← h2]
  rfl
theorem clean_l1 (l : Bytes) (hl : l.length ≤ 1073741824) (ps : List ByteArray) (hps : ps = (split1 l 47).map str) : ∀ (d i k : Nat) (acc : List ByteArray), i + d = ps.length → CleanAt ps acc i → 2 * d + 1 ≤ k →
    wainloadref14_Clean.l1 k (str (joinS acc)) ps (i : Int) = some (str (cleanEnd ps).1, (cleanEnd ps).2)
  | 0, i, k, acc, hi, hA, hk => by
    obtain ⟨k, rfl⟩ : ∃ k', k = k' + 1 := ⟨k - 1, by omega⟩
    obtain ⟨hany, hacc⟩ := hA.fin (by omega)
    rw [wainloadref14_Clean.l1, if_neg (by omega), tl_data, data_str, str_size]
    rw [cleanEnd_fin hany hacc]
    by_cases h1 : joinS acc = []
    · rw [if_pos h1, if_pos (.inl h1)]; rfl
    · rw [if_neg h1]
      by_cases h2 : 200 < (joinS acc).length
      · rw [if_pos (by omega), if_pos (.inr h2)]; rfl
      · rw [if_neg (by omega), if_neg (by intro h; rcases h with h | h; exact h1 h; exact h2 h)]
  | d + 1, i, k, acc, hi, hA, hk => by
    obtain ⟨k, rfl⟩ : ∃ k', k = k' + 2 := ⟨k - 2, by omega⟩
    have hlt : i < ps.length := by omega
    obtain ⟨x, hx⟩ : ∃ x, ps[i]? = some x := ⟨_, List.getElem?_eq_getElem hlt⟩
    have hil : ps.length ≤ 1073741825 := by rw [hps, List.length_map]; exact Nat.le_trans (split1_length l 47) (by omega)
    have hw : wrap64 ((i : Int) + 1) = ((i + 1 : Nat) : Int) := by rw [w_in _ (by omega)]; push_cast; rfl
    rw [wainloadref14_Clean.l1, if_pos (by omega), if_pos (by omega), rdOf_at ps i x hx, tl_data]
    by_cases hd : x.data.toList = [46, 46]
    · rw [if_pos hd, cleanEnd_dots hx hd]; rfl
    · rw [if_neg hd]
      by_cases hk1 : keepPart x = true
      · have n1 : x.data.toList ≠ [] := fun h => by unfold keepPart at hk1; rw [h] at hk1; simp at hk1
        have n2 : x.data.toList ≠ [46] := fun h => by unfold keepPart at hk1; rw [h] at hk1; simp at hk1
        rw [if_neg n1, show (x.data.toList == ([46] : List UInt8)) = false from beq_eq_false_iff_ne.2 n2, wainloadref14_Clean.j3, if_neg (by simp), rdOf_at ps i x hx, tl_data, data_str, str_size]
        have hA2 := hA.keep hx hd hk1
        have hle : (joinS (acc ++ [x])).length ≤ l.length + 1 := by rw [hA2.acc, hps]; exact joinS_le l (i + 1)
        rw [joinS_snoc] at hle
        have hnil : joinS acc = [] ↔ acc = [] := joinS_nil (by rw [hA.acc]; exact keep_ne)
        by_cases h0 : acc = []
        · rw [if_pos h0, dat_len] at hle
          rw [if_pos (hnil.2 h0), if_pos (by omega), if_pos (by omega), if_pos (by rw [hnil.2 h0]; simp; omega), hw]
          have e : str (joinS acc) ++ x = str (joinS (acc ++ [x])) := by rw [joinS_snoc, if_pos h0, hnil.2 h0, ← str_data x, str_append, data_str]; rfl
          rw [e]
          exact clean_l1 l hl ps hps d (i + 1) k _ (by omega) hA2 (by omega)
        · rw [if_neg h0, List.length_append, List.length_append, dat_len] at hle
          rw [if_neg (fun h => h0 (hnil.1 h)), if_pos (by omega), if_pos (by omega), if_pos (by omega)]
          have e47 : (⟨#[47]⟩ : ByteArray) = str [47] := rfl
          have e : str (joinS acc) ++ (⟨#[47]⟩ : ByteArray) ++ x = str (joinS (acc ++ [x])) := by rw [joinS_snoc, if_neg h0, e47, ← str_data x, str_append, str_append, data_str]
          rw [if_pos (by rw [e47, str_append, str_size, List.length_append]; simp only [List.length_cons, List.length_nil] at hle ⊢; omega), hw, e]
          exact clean_l1 l hl ps hps d (i + 1) k _ (by omega) hA2 (by omega)
      · have hk0 : keepPart x = false := by simpa using hk1
        have hA2 := hA.skip hx hd hk0
        have fin : wainloadref14_Clean.j3 (k + 1) (str (joinS acc)) ps (i : Int) true = some (str (cleanEnd ps).1, (cleanEnd ps).2) := by
          rw [wainloadref14_Clean.j3, if_pos rfl, hw]
          exact clean_l1 l hl ps hps d (i + 1) k _ (by omega) hA2 (by omega)
        by_cases n1 : x.data.toList = []
        · rw [if_pos n1]; exact fin
        · rw [if_neg n1]
          have n2 : x.data.toList = [46] := by
            unfold keepPart at hk0
            simp only [Bool.not_eq_false', Bool.or_eq_true, beq_iff_eq] at hk0
            exact hk0.resolve_left n1
          rw [show (x.data.toList == ([46] : List UInt8)) = true from beq_iff_eq.2 n2]; exact fin

theorem indexByte_none {l : Bytes} {c : UInt8} (h : ∀ b ∈ l, b ≠ c) : Lib.indexByte l c = -1 := by
  induction l with
  | nil => rfl
  | cons b r ih =>
    unfold Lib.indexByte
    rw [ih (fun x hx => h x (by simp [hx])), if_neg (by simp [h b (by simp)])]
    rfl
theorem indexByte_some {l : Bytes} {c : UInt8} (h : c ∈ l) : 0 ≤ Lib.indexByte l c := by
  induction l with
  | nil => cases h
  | cons b r ih =>
    unfold Lib.indexByte
    by_cases e : b = c
    · rw [if_pos (by simp [e])]; omega
    · have := ih ((List.mem_cons.1 h).resolve_left (fun x => e x.symm))
      rw [if_neg (by simp [e]), if_neg (by simp; omega)]; omega
theorem clean_l0 (s : ByteArray) (hs : s.size ≤ 1073741824) : ∀ (d i k : Nat), i + d = s.size → (∀ j b, j < i → s.data.toList[j]? = some b → b ≠ 0) → d + 2 * s.size + 8 ≤ k →
    wainloadref14_Clean.l0 k s (i : Int) = some (if 0 ≤ Lib.indexByte s.data.toList 0 then (str [], (140 : Int)) else (str (cleanEnd ((split1 s.data.toList 47).map str)).1, (cleanEnd ((split1 s.data.toList 47).map str)).2))
  | 0, i, k, hi, hn, hk => by
    obtain ⟨k, rfl⟩ : ∃ k', k = k' + 1 := ⟨k - 1, by omega⟩
    have h0 : Lib.indexByte s.data.toList 0 = -1 := indexByte_none fun b hb => by
      obtain ⟨j, hj⟩ := List.mem_iff_getElem?.1 hb
      have hlt : j < s.data.toList.length := by
        rcases Nat.lt_or_ge j s.data.toList.length with h | h
        · exact h
        · rw [List.getElem?_eq_none h] at hj; cases hj
      rw [dat_len] at hlt
      exact hn j b (by omega) hj
    rw [wainloadref14_Clean.l0, if_neg (by omega), parts_f s hs k (by omega), Option.bind_some, h0, if_neg (by omega)]
    have hsl := split1_length s.data.toList 47
    rw [dat_len] at hsl
    exact clean_l1 s.data.toList (by rw [dat_len]; exact hs) _ rfl _ 0 k [] (by rw [Nat.zero_add]) ⟨by omega, by simp, fun j x hj => by omega⟩ (by rw [List.length_map]; omega)
  | d + 1, i, k, hi, hn, hk => by
    obtain ⟨k, rfl⟩ : ∃ k', k = k' + 1 := ⟨k - 1, by omega⟩
    have hlt : i < s.data.toList.length := by rw [dat_len]; omega
    obtain ⟨c, hc⟩ : ∃ c, s.data.toList[i]? = some c := ⟨_, List.getElem?_eq_getElem hlt⟩
    rw [wainloadref14_Clean.l0, if_pos (by omega), if_pos (by omega), bt_at s i c hc]
    by_cases h0 : c = 0
    · rw [if_pos ((bt0 c).2 h0), if_pos (indexByte_some (h0 ▸ List.mem_of_getElem? hc))]; rfl
    · rw [if_neg (fun h => h0 ((bt0 c).1 h)), w_in ((i : Int) + 1) (by omega), show ((i : Int) + 1) = ((i + 1 : Nat) : Int) by push_cast; rfl]
      refine clean_l0 s hs d (i + 1) k (by omega) (fun j b h1 hj => ?_) (by omega)
      rcases Nat.lt_or_ge j i with h | h
      · exact hn j b h hj
      · obtain rfl : j = i := by omega
        rw [hc] at hj; injection hj with hj; rw [← hj]; exact h0
theorem ref_clean_f (s : ByteArray) (hs : s.size ≤ 1073741824) (k : Nat) (hk : 3 * s.size + 16 ≤ k) : wainloadref14_Clean.f k s = some (str (cleanS s.data.toList).1, (cleanS s.data.toList).2) := by
  have hj : ∀ b : Bool, wainloadref14_Clean.j0 k s b = some (if b = true ∨ 0 ≤ Lib.indexByte s.data.toList 0 then (str [], (140 : Int)) else (str (cleanEnd ((split1 s.data.toList 47).map str)).1, (cleanEnd ((split1 s.data.toList 47).map str)).2)) := by
    intro b
    obtain ⟨k, rfl⟩ : ∃ k', k = k' + 1 := ⟨k - 1, by omega⟩
    rw [wainloadref14_Clean.j0]
    cases b with
    | true => rw [if_pos rfl, if_pos (.inl rfl)]; rfl
    | false =>
      rw [if_neg (by simp)]
      have := clean_l0 s hs s.size 0 k (by omega) (fun j b h1 => by omega) (by omega)
      rw [show ((0 : Nat) : Int) = 0 from rfl] at this
      rw [this]
      simp
  have e : some (str (cleanS s.data.toList).1, (cleanS s.data.toList).2) = some (if (Lib.validD s.data.toList = false ∨ Lib.hasPrefix s.data.toList [47] = true) ∨ 0 ≤ Lib.indexByte s.data.toList 0 then (str [], (140 : Int)) else (str (cleanEnd ((split1 s.data.toList 47).map str)).1, (cleanEnd ((split1 s.data.toList 47).map str)).2)) := by
    unfold cleanS
    by_cases hc : Lib.validD s.data.toList = false ∨ Lib.hasPrefix s.data.toList [47] = true ∨ 0 ≤ Lib.indexByte s.data.toList 0
    · rw [if_pos hc, if_pos (by simpa [or_assoc] using hc)]
    · rw [if_neg hc, if_neg (by simpa [or_assoc] using hc)]
  rw [e, wainloadref14_Clean.f, ref_valid_f s k (by omega) (by omega), Option.bind_some]
  cases hv : Lib.validD s.data.toList with
  | false => rw [if_neg (by simp), hj]; simp
  | true =>
    rw [if_pos rfl]
    by_cases h0 : 0 < s.size
    · rw [if_pos (by omega), if_pos (by omega), hj]
      have hlt : 0 < s.data.toList.length := h0
      obtain ⟨c, r, hcr⟩ : ∃ c r, s.data.toList = c :: r := by
        cases h : s.data.toList with
        | nil => rw [h] at hlt; simp at hlt
        | cons c r => exact ⟨c, r, rfl⟩
      have hb : bt s 0 = (c.toNat : Int) := bt_at s 0 c (by rw [hcr]; rfl)
      have hp : ((bt s 0) == 47) = Lib.hasPrefix s.data.toList [47] := by
        rw [hb, hcr]
        have : Lib.hasPrefix (c :: r) [47] = ((47 : UInt8) == c) := by simp [Lib.hasPrefix, List.isPrefixOf]
        rw [this, Bool.eq_iff_iff, beq_iff_eq, beq_iff_eq]
        exact (bt47 c).trans ⟨fun h => h.symm, fun h => h.symm⟩
      rw [hp]; simp
    · rw [if_neg (by omega), hj]
      have : s.data.toList = [] := List.eq_nil_of_length_eq_zero (by rw [dat_len]; omega)
      rw [this]
      simp [Lib.hasPrefix]

theorem parents_l0 (s : ByteArray) (hs : s.size ≤ 1073741824) : ∀ (d i k : Nat), i + d = s.size → d < k → wainloadref14_Parents.l0 k s ((parentsTo s.data.toList i).map str) (i : Int) = some ((parentsS s.data.toList).map str)
  | 0, i, k, hi, hk => by
    obtain ⟨k, rfl⟩ : ∃ k', k = k' + 1 := ⟨k - 1, by omega⟩
    rw [wainloadref14_Parents.l0, if_neg (by omega)]
    unfold parentsS; rw [dat_len, show i = s.size by omega]
  | d + 1, i, k, hi, hk => by
    obtain ⟨k, rfl⟩ : ∃ k', k = k' + 1 := ⟨k - 1, by omega⟩
    have hlt : i < s.data.toList.length := by rw [dat_len]; omega
    obtain ⟨c, hc⟩ : ∃ c, s.data.toList[i]? = some c := ⟨_, List.getElem?_eq_getElem hlt⟩
    have ih := parents_l0 s hs d (i + 1) k (by omega) (by omega)
    have hpl := parentsTo_len s.data.toList i
    rw [parentsTo] at ih
    rw [wainloadref14_Parents.l0, if_pos (by omega), if_pos (by omega), bt_at s i c hc, w_in ((i : Int) + 1) (by omega), show ((i : Int) + 1) = ((i + 1 : Nat) : Int) by push_cast; rfl]
    by_cases h47 : c = 47
    · rw [if_pos (by rw [hc, h47])] at ih
      rw [if_pos ((bt47 c).2 h47), if_pos (by omega), if_pos (by rw [List.length_map]; omega), Int.toNat_natCast, extract_str]
      rw [List.map_append] at ih
      simpa using ih
    · rw [if_neg (by rw [hc]; intro h; exact h47 (Option.some.inj h))] at ih
      rw [if_neg (fun h => h47 ((bt47 c).1 h))]
      exact ih
theorem ref_parents_f (s : ByteArray) (hs : s.size ≤ 1073741824) (k : Nat) (hk : s.size < k) : wainloadref14_Parents.f k s = some ((parentsS s.data.toList).map str) := parents_l0 s hs s.size 0 k (by omega) hk
end Go.Proofs.YtkmcbpkciakmeaaGreatDoor.PA

/- The document's right and Check, in plain Lean: they answer what the program's do. -/
set_option linter.unusedVariables false
set_option linter.unusedSimpArgs false
namespace Go.Proofs.YtkmcbpkciakmeaaGreatDoor.PA
open Go.RowKit Go.Proofs.YtkmcbpkciakmeaaGreatDoorW.PrintWords Go.Proofs.YtkmcbpkciakmeaaGreatDoorW.PrintLast Go.Proofs.YtkmcbpkciakmeaaGreatDoorW.PrintMore

theorem tl_nil_beq (s : ByteArray) : (s.toList == ([] : List UInt8)) = s.toList.isEmpty := by
  cases s.toList with
  | nil => rfl
  | cons a b => rfl
theorem right_l0 (s : ByteArray) (hs : s.size ≤ 1073741824) (f0 : Int) (f1 : ByteArray) (f3 f4 : Int) (f5 : ByteArray) : ∀ (d i k : Nat), i + d = s.size → (∀ j b, j < i → s.data.toList[j]? = some b → b ≠ 0) → d + s.size + 14 ≤ k →
    wainloadref16_right.l0 k (i : Int) f0 f1 s f3 f4 f5 = some (decide (Lib.indexByte s.data.toList 0 < 0) && Lib.validD s.data.toList)
  | 0, i, k, hi, hn, hk => by
    obtain ⟨k, rfl⟩ : ∃ k', k = k' + 1 := ⟨k - 1, by omega⟩
    have h0 : Lib.indexByte s.data.toList 0 = -1 := indexByte_none fun b hb => by
      obtain ⟨j, hj⟩ := List.mem_iff_getElem?.1 hb
      have hlt : j < s.data.toList.length := by
        rcases Nat.lt_or_ge j s.data.toList.length with h | h
        · exact h
        · rw [List.getElem?_eq_none h] at hj; cases hj
      rw [dat_len] at hlt
      exact hn j b (by omega) hj
    rw [wainloadref16_right.l0, if_neg (by omega), ref_valid_f s k (by omega) (by omega), Option.bind_some, h0]
    rfl
  | d + 1, i, k, hi, hn, hk => by
    obtain ⟨k, rfl⟩ : ∃ k', k = k' + 1 := ⟨k - 1, by omega⟩
    have hlt : i < s.data.toList.length := by rw [dat_len]; omega
    obtain ⟨c, hc⟩ : ∃ c, s.data.toList[i]? = some c := ⟨_, List.getElem?_eq_getElem hlt⟩
    rw [wainloadref16_right.l0, if_pos (by omega), if_pos (by omega), bt_at s i c hc]
    by_cases h0 : c = 0
    · have := indexByte_some (h0 ▸ List.mem_of_getElem? hc : (0 : UInt8) ∈ s.data.toList)
      rw [if_pos ((bt0 c).2 h0), decide_eq_false (by omega)]; rfl
    · rw [if_neg (fun h => h0 ((bt0 c).1 h)), w_in ((i : Int) + 1) (by omega), show ((i : Int) + 1) = ((i + 1 : Nat) : Int) by push_cast; rfl]
      refine right_l0 s hs f0 f1 f3 f4 f5 d (i + 1) k (by omega) (fun j b h1 hj => ?_) (by omega)
      rcases Nat.lt_or_ge j i with h | h
      · exact hn j b h hj
      · obtain rfl : j = i := by omega
        rw [hc] at hj; injection hj with hj; rw [← hj]; exact h0
theorem right_j0 (x : S44) (h2 : x.f2.size ≤ 1073741824) (b : Bool) (k : Nat) (hk : 2 * x.f2.size + 20 ≤ k) : wainloadref16_right.j0 k b x.f0 x.f1 x.f2 x.f3 x.f4 x.f5 = some (!b && kindS x) := by
  obtain ⟨k, rfl⟩ : ∃ k', k = k' + 2 := ⟨k - 2, by omega⟩
  rw [wainloadref16_right.j0]
  cases b with
  | true => rw [if_pos rfl]; rfl
  | false =>
    rw [if_neg (by simp), tl_nil_beq]
    unfold kindS
    by_cases k1 : x.f0 = 1
    · rw [if_pos k1, if_pos k1]; simp
    rw [if_neg k1, if_neg k1]
    by_cases k2 : x.f0 = 2
    · rw [if_pos k2, if_pos k2]
      by_cases e5 : x.f5.toList = []
      · rw [if_pos e5, e5]; simp
      · rw [if_neg e5, List.isEmpty_eq_false_iff.2 e5]; simp
    rw [if_neg k2, if_neg k2]
    have j1 : wainloadref16_right.j1 (k + 1) true x.f0 x.f1 x.f2 x.f3 x.f4 x.f5 = some false := by rw [wainloadref16_right.j1, if_pos rfl]
    by_cases k3 : x.f0 = 3
    · rw [if_pos k3, if_pos k3]
      by_cases e5 : x.f5.toList = []
      · rw [if_pos e5, e5]
        by_cases e2 : x.f2.toList = []
        · rw [if_pos e2, j1]
          unfold targetS
          rw [tl_data] at e2
          rw [e2]; simp
        · rw [if_neg e2]
          rw [tl_data] at e2
          have e2b : (decide (x.f2.data.toList ≠ [])) = true := decide_eq_true e2
          unfold targetS
          rw [e2b, dat_len]
          by_cases c2 : 200 < x.f2.size
          · rw [decide_eq_true (show (x.f2.size : Int) > 200 by omega), j1, decide_eq_false (show ¬ x.f2.size ≤ 200 by omega)]; simp
          · rw [decide_eq_false (show ¬ (x.f2.size : Int) > 200 by omega), wainloadref16_right.j1, if_neg (by simp), decide_eq_true (show x.f2.size ≤ 200 by omega)]
            have := right_l0 x.f2 h2 x.f0 x.f1 x.f3 x.f4 x.f5 x.f2.size 0 k (by omega) (fun j b h1 => by omega) (by omega)
            rw [show ((0 : Nat) : Int) = 0 from rfl] at this
            rw [this]; simp
      · rw [if_neg e5, j1, List.isEmpty_eq_false_iff.2 e5]; simp
    · rw [if_neg k3, if_neg k3, j1]; rfl
theorem str_tl (l : Bytes) : (str l).toList = l := by rw [tl_data, data_str]
theorem ref_right_f (x : S44) (h1 : x.f1.size ≤ 1073741824) (h2 : x.f2.size ≤ 1073741824) (k : Nat) (hk : 3 * x.f1.size + 2 * x.f2.size + 40 ≤ k) :
    wainloadref16_right.f k x.f0 x.f1 x.f2 x.f3 x.f4 x.f5 = some (rightS x) := by
  have hj := fun b => right_j0 x h2 b k (by omega)
  unfold wainloadref16_right.f rightS
  rw [ref_clean_f x.f1 h1 k (by omega), Option.bind_some]
  simp only [hj, tl_data, data_str]
  by_cases c1 : (cleanS x.f1.data.toList).2 = 0
  · rw [if_pos c1, decide_eq_true c1]
    by_cases c2 : (cleanS x.f1.data.toList).1 = x.f1.data.toList
    · rw [if_pos c2, decide_eq_true c2]
      by_cases c3 : x.f3 < 0
      · rw [if_pos c3, decide_eq_false (show ¬ (0 ≤ x.f3) by omega)]; simp
      · rw [if_neg c3, decide_eq_true (show 0 ≤ x.f3 by omega)]
        by_cases c4 : x.f3 < 4096
        · rw [decide_eq_true c4, decide_eq_false (show ¬ x.f3 > 4095 by omega)]; simp
        · rw [decide_eq_false c4, decide_eq_true (show x.f3 > 4095 by omega)]; simp
    · rw [if_neg c2, decide_eq_false c2]; simp
  · rw [if_neg c1, decide_eq_false c1]; simp

/-- Does an entry stand in the way of one of these paths? -/
def bad1 (x : S44) (p : ByteArray) : Bool := decide (p = x.f1) && !decide (x.f0 = 2)
theorem rd44 (xs : List S44) (i : Nat) : rd_T44 xs (i : Int) = xs.getD i z44 := rfl
theorem drop_cons {α : Type} (l : List α) (i : Nat) (z : α) (h : i < l.length) : l.drop i = l.getD i z :: l.drop (i + 1) := by
  rw [List.drop_eq_getElem_cons h, List.getD_eq_getElem?_getD, List.getElem?_eq_getElem h]; rfl

theorem chk_l2 (xs : List S44) (i j : Nat) (ps : List ByteArray) (hj : j < xs.length) (hj2 : j ≤ 1000) (hps : ps.length ≤ 1073741824) (r : Int) (hr : ∃ K, ∀ k, K ≤ k → wainloadref16_Check.l1 k xs (i : Int) ps ((j + 1 : Nat) : Int) = some r) : ∀ (d m : Nat), m + d = ps.length →
    ∃ K, ∀ k, K ≤ k → wainloadref16_Check.l2 k xs (i : Int) ps (j : Int) (m : Int) = some (if (ps.drop m).any (bad1 (xs.getD j z44)) = true then 160 else r)
  | 0, m, hm => by
    obtain ⟨K, hK⟩ := hr
    refine ⟨K + 1, fun k hk => ?_⟩
    obtain ⟨k, rfl⟩ : ∃ k', k = k' + 1 := ⟨k - 1, by omega⟩
    rw [wainloadref16_Check.l2, if_neg (by omega), w_in ((j : Int) + 1) (by omega), show ((j : Int) + 1) = ((j + 1 : Nat) : Int) by push_cast; rfl, hK k (by omega), List.drop_of_length_le (by omega)]
    rfl
  | d + 1, m, hm => by
    obtain ⟨K, hK⟩ := chk_l2 xs i j ps hj hj2 hps r hr d (m + 1) (by omega)
    refine ⟨K + 1, fun k hk => ?_⟩
    obtain ⟨k, rfl⟩ : ∃ k', k = k' + 1 := ⟨k - 1, by omega⟩
    have hlt : m < ps.length := by omega
    rw [drop_cons ps m ByteArray.empty hlt, List.any_cons]
    obtain ⟨p, hp⟩ : ∃ p, ps.getD m ByteArray.empty = p := ⟨_, rfl⟩
    have hp2 : rdOf ByteArray.empty ps (m : Int) = p := hp
    rw [wainloadref16_Check.l2, if_pos (by omega), if_pos (by omega), if_pos (by omega), if_pos (by omega), hp, hp2, rd44, w_in ((m : Int) + 1) (by omega), show ((m : Int) + 1) = ((m + 1 : Nat) : Int) by push_cast; rfl]
    obtain ⟨x, hx⟩ : ∃ x, xs.getD j z44 = x := ⟨_, rfl⟩
    rw [hx] at hK ⊢
    by_cases e : p = x.f1
    · rw [if_pos (by rw [e])]
      by_cases e2 : x.f0 = 2
      · have hb : bad1 x p = false := by unfold bad1; rw [decide_eq_true e2]; simp
        rw [if_pos e2, hK k (by omega), hb]; rfl
      · have hb : bad1 x p = true := by unfold bad1; rw [decide_eq_true e, decide_eq_false e2]; rfl
        rw [if_neg e2, hb]; rfl
    · have hb : bad1 x p = false := by unfold bad1; rw [decide_eq_false e]; rfl
      rw [if_neg (fun h => e (toList_inj h)), hK k (by omega), hb]; rfl

theorem chk_l1 (xs : List S44) (i : Nat) (ps : List ByteArray) (hi : i ≤ xs.length) (hi2 : i ≤ 1000) (hps : ps.length ≤ 1073741824) (r : Int) (hr : ∃ K, ∀ k, K ≤ k → wainloadref16_Check.l0 k xs ((i + 1 : Nat) : Int) = some r) : ∀ (d j : Nat), j + d = i →
    ∃ K, ∀ k, K ≤ k → wainloadref16_Check.l1 k xs (i : Int) ps (j : Int) = some (if ((xs.take i).drop j).any (fun x => ps.any (bad1 x)) = true then 160 else r)
  | 0, j, hj => by
    obtain ⟨K, hK⟩ := hr
    refine ⟨K + 1, fun k hk => ?_⟩
    obtain ⟨k, rfl⟩ : ∃ k', k = k' + 1 := ⟨k - 1, by omega⟩
    rw [wainloadref16_Check.l1, if_neg (by omega), w_in ((i : Int) + 1) (by omega), show ((i : Int) + 1) = ((i + 1 : Nat) : Int) by push_cast; rfl, hK k (by omega), List.drop_of_length_le (by rw [List.length_take]; omega)]
    rfl
  | d + 1, j, hj => by
    obtain ⟨K, hK⟩ := chk_l2 xs i j ps (by omega) (by omega) hps _ (chk_l1 xs i ps hi hi2 hps r hr d (j + 1) (by omega)) ps.length 0 (by omega)
    refine ⟨K + 1, fun k hk => ?_⟩
    obtain ⟨k, rfl⟩ : ∃ k', k = k' + 1 := ⟨k - 1, by omega⟩
    rw [drop_cons (xs.take i) j z44 (by rw [List.length_take]; omega), List.any_cons, take_getD xs i j (by omega)]
    have := hK k (by omega)
    rw [show ((0 : Nat) : Int) = 0 from rfl, List.drop_zero] at this
    rw [wainloadref16_Check.l1, if_pos (by omega), this]
    cases h : ps.any (bad1 (xs.getD j z44)) with
    | true => rfl
    | false => rfl

theorem under_bad (ys : List S44) (l : Bytes) : ys.any (fun x => ((parentsS l).map str).any (bad1 x)) = !underS ys l := by
  have hc : ∀ a b : ByteArray, decide (a = b) = decide (b = a) := fun a b => decide_eq_decide.2 ⟨Eq.symm, Eq.symm⟩
  have h1 : (ys.any (fun x => ((parentsS l).map str).any (bad1 x)) = true) ↔ ∃ q ∈ parentsS l, blocks ys (str q) = true := by
    unfold blocks bad1
    simp only [List.any_eq_true, List.mem_map]
    constructor
    · rintro ⟨x, hx, p, ⟨q, hq, rfl⟩, h⟩
      refine ⟨q, hq, x, hx, ?_⟩
      rw [hc]; exact h
    · rintro ⟨q, hq, x, hx, h⟩
      refine ⟨x, hx, _, ⟨q, hq, rfl⟩, ?_⟩
      rw [hc]; exact h
  have h2 : (underS ys l = true) ↔ ∀ q ∈ parentsS l, blocks ys (str q) = false := by
    unfold underS
    simp only [List.all_eq_true, Bool.not_eq_true']
  cases hu : underS ys l with
  | true =>
    rw [Bool.not_true, Bool.eq_false_iff]
    intro h
    obtain ⟨q, hq, hb⟩ := h1.1 h
    rw [h2.1 hu q hq] at hb; cases hb
  | false =>
    rw [Bool.not_false, h1]
    apply Classical.byContradiction
    intro hn
    have : underS ys l = true := h2.2 fun q hq => by
      cases hb : blocks ys (str q) with
      | false => rfl
      | true => exact absurd ⟨q, hq, hb⟩ hn
    rw [hu] at this; cases this

theorem chk_l0 (xs : List S44) (hn : xs.length ≤ 1000) (hz : ∀ x ∈ xs, x.f1.size ≤ 1073741824 ∧ x.f2.size ≤ 1073741824) : ∀ (d i : Nat), i + d = xs.length →
    ∃ K, ∀ k, K ≤ k → wainloadref16_Check.l0 k xs (i : Int) = some (checkFrom xs i d)
  | 0, i, hi => by
    refine ⟨1, fun k hk => ?_⟩
    obtain ⟨k, rfl⟩ : ∃ k', k = k' + 1 := ⟨k - 1, by omega⟩
    rw [wainloadref16_Check.l0, if_neg (by omega)]; rfl
  | d + 1, i, hi => by
    have hlt : i < xs.length := by omega
    obtain ⟨x, hx⟩ : ∃ x, xs.getD i z44 = x := ⟨_, rfl⟩
    have hmem : x ∈ xs := by rw [← hx, List.getD_eq_getElem?_getD, List.getElem?_eq_getElem hlt]; exact List.getElem_mem hlt
    obtain ⟨h1, h2⟩ := hz x hmem
    have hpl : (parentsS x.f1.data.toList).length ≤ x.f1.size := parentsTo_len _ _
    obtain ⟨K, hK⟩ := chk_l1 xs i ((parentsS x.f1.data.toList).map str) (by omega) (by omega) (by rw [List.length_map]; omega) _ (chk_l0 xs hn hz d (i + 1) (by omega)) i 0 (by omega)
    refine ⟨K + 3 * x.f1.size + 2 * x.f2.size + 44, fun k hk => ?_⟩
    obtain ⟨k, rfl⟩ : ∃ k', k = k' + 3 := ⟨k - 3, by omega⟩
    have hl1 := hK k (by omega)
    rw [List.drop_zero, under_bad] at hl1
    have hCA : checkAt xs i = if rightS x = false then 160 else if x.f5.size > 1048576 then 162 else if 0 < i ∧ (xs.getD (i - 1) z44).f1 = x.f1 then 161 else if 0 < i ∧ Op.bytesLess x.f1.toList (xs.getD (i - 1) z44).f1.toList = true then 160 else if underS (xs.take i) x.f1.data.toList = false then 160 else 0 := by
      unfold checkAt; rw [hx]
    have hCF : checkFrom xs i (d + 1) = if checkAt xs i = 0 then checkFrom xs (i + 1) d else checkAt xs i := rfl
    have bad : ∀ e : Int, e ≠ 0 → checkAt xs i = e → checkFrom xs i (d + 1) = e := fun e he h => by rw [hCF, h, if_neg he]
    rw [wainloadref16_Check.l0, if_pos (by omega), if_pos (by omega), rd44, hx, ref_right_f x h1 h2 _ (by omega), Option.bind_some]
    cases hr : rightS x with
    | false => rw [bad 160 (by decide) (by rw [hCA, hr]; rfl)]; rfl
    | true =>
      rw [hr, if_neg (by decide : ¬ (true = false))] at hCA
      rw [if_pos rfl]
      by_cases c1 : x.f5.size > 1048576
      · rw [if_pos (by omega), bad 162 (by decide) (by rw [hCA, if_pos c1])]
      · rw [if_neg c1] at hCA
        rw [if_neg (by omega)]
        have J2 : ∀ b, wainloadref16_Check.j2 (k + 1) xs (i : Int) b = some (if b = true then 160 else if underS (xs.take i) x.f1.data.toList = false then 160 else checkFrom xs (i + 1) d) := by
          intro b
          rw [wainloadref16_Check.j2]
          cases b with
          | true => rw [if_pos rfl]; rfl
          | false =>
            rw [if_neg (by simp), if_pos (by omega), if_pos (by omega), rd44, hx, ref_parents_f x.f1 h1 k (by omega), Option.bind_some]
            rw [show (0 : Int) = ((0 : Nat) : Int) from rfl, hl1]
            cases underS (xs.take i) x.f1.data.toList <;> rfl
        by_cases c0 : 0 < i
        · have hp : wrap64 ((i : Int) - 1) = ((i - 1 : Nat) : Int) := by rw [w_in _ (by omega)]; omega
          rw [if_pos (by omega), hp, if_pos (by omega), if_pos (by omega), rd44, wainloadref16_Check.j1]
          obtain ⟨y, hy⟩ : ∃ y, xs.getD (i - 1) z44 = y := ⟨_, rfl⟩
          rw [hy] at hCA ⊢
          by_cases e : y.f1 = x.f1
          · rw [if_pos ⟨c0, e⟩] at hCA
            rw [if_pos (by rw [e]; exact beq_self_eq_true _), bad 161 (by decide) hCA]
          · rw [if_neg (fun h => e h.2)] at hCA
            rw [if_neg (by rw [beq_iff_eq]; exact fun h => e (toList_inj h)), if_pos (by omega), hp, if_pos (by omega), if_pos (by omega), if_pos (by omega), if_pos (by omega), rd44, rd44, hx, hy, J2]
            by_cases e2 : Op.bytesLess x.f1.toList y.f1.toList = true
            · rw [if_pos ⟨c0, e2⟩] at hCA
              rw [if_pos e2, bad 160 (by decide) hCA]
            · rw [if_neg (fun h => e2 h.2)] at hCA
              rw [if_neg e2]
              by_cases e3 : underS (xs.take i) x.f1.data.toList = false
              · rw [if_pos e3] at hCA
                rw [if_pos e3, bad 160 (by decide) hCA]
              · rw [if_neg e3] at hCA
                rw [if_neg e3, hCF, hCA, if_pos rfl]
        · rw [if_neg (fun h => c0 h.1), if_neg (fun h => c0 h.1)] at hCA
          rw [if_neg (by omega), wainloadref16_Check.j1, if_neg (by simp), if_neg (by omega), J2, if_neg (by simp)]
          by_cases e3 : underS (xs.take i) x.f1.data.toList = false
          · rw [if_pos e3] at hCA
            rw [if_pos e3, bad 160 (by decide) hCA]
          · rw [if_neg e3] at hCA
            rw [if_neg e3, hCF, hCA, if_pos rfl]

theorem ref_check_f (xs : List S44) (hz : ∀ x ∈ xs, x.f1.size ≤ 1073741824 ∧ x.f2.size ≤ 1073741824) : ∃ K, ∀ k, K ≤ k → wainloadref16_Check.f k xs = some (checkS xs) := by
  unfold wainloadref16_Check.f checkS
  by_cases h : xs.length > 1000
  · exact ⟨0, fun k _ => by rw [if_pos (by omega), if_pos h]⟩
  · obtain ⟨K, hK⟩ := chk_l0 xs (by omega) hz xs.length 0 (by omega)
    refine ⟨K, fun k hk => ?_⟩
    rw [if_neg (by omega), if_neg h]
    exact hK k hk

theorem checkS_zero' {xs : List S44} (h : checkS xs = 0) : xs.length ≤ 1000 := by
  unfold checkS at h
  split at h
  · cases h
  · omega
theorem ref_check_calls (A0 : Option Addr) (c0 : Nat) (xs : List S44) (w : World) (hr0 : Kd.C k44 w A0 xs.length xs) (hc0 : xs.length ≤ c0) (hz : ∀ x ∈ xs, x.f1.size ≤ 1073741824 ∧ x.f2.size ≤ 1073741824) :
    Calls Tryz.prog 21 #[.slice A0 xs.length c0] w fun e w' => e = .returned (.int .i64 (checkS xs)) ∧ Below w.heap.size w w' := by
  obtain ⟨K, hK⟩ := ref_check_f xs hz
  exact wainloadref16_Check.calls K A0 c0 xs _ w hr0 hc0 (hK K (Nat.le_refl _))
end Go.Proofs.YtkmcbpkciakmeaaGreatDoor.PA
