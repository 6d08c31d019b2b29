/- Trees are checked, and whether a tree can be held. -/
import Derived.Test.YtkmcbpkciakmeaaGreatDoorMnames
import Derived.Test.YtkmcbpkciakmeaaGreatDoorMprinted
import Derived.Test.YtkmcbpkciakmeaaGreatDoorVfootne
import Derived.Deep.QuietTactic
import Derived.BigQuiet
import Derived.Deep.RegionWith

/- slices.BinarySearchFunc over entries sorted by their paths answers where a path stands, or would; nothing turns but the orders drawn. -/
set_option linter.unusedVariables false
set_option linter.unusedSimpArgs false
namespace Go.Proofs.YtkmcbpkciakmeaaGreatDoor.PA
open Go.RowKit Go.Proofs.YtkmcbpkciakmeaaGreatDoorW.PrintWords Go.Proofs.YtkmcbpkciakmeaaGreatDoorW.PrintLast Go.Proofs.YtkmcbpkciakmeaaGreatDoorW.PrintMore

/-- cmp.Compare of texts. -/
def cmpS (a b : ByteArray) : Int := if Op.bytesLess a.toList b.toList = true then -1 else if Op.bytesLess b.toList a.toList = true then 1 else 0
theorem cmpS_range (a b : ByteArray) : -1 ≤ cmpS a b ∧ cmpS a b ≤ 1 := by unfold cmpS; repeat' split
                                                                          all_goals omega
theorem compare_f (a b : ByteArray) : cmp_Compare_string.f a b = some (cmpS a b) := by
  unfold cmp_Compare_string.f cmp_isNaN_string.f cmpS
  simp
  repeat' split
  all_goals rfl
theorem by_calls (x : S44) (p : ByteArray) (w : World) :
    Calls Tryz.prog 100 #[entV x, .string p] w fun e w' => e = .returned (.int .i64 (cmpS x.f1 p)) ∧ Below w.heap.size w w' := by
  have h := tree_by.calls x.f0 x.f1 x.f2 x.f3 x.f4 x.f5 p (cmpS x.f1 p) w (by unfold tree_by.f; rw [compare_f]; rfl)
  exact h.mono fun e w' ⟨he, hb⟩ => ⟨he, hb⟩

structure BsAt (xs : List S44) (p : ByteArray) (i j : Int) : Prop where
  i0 : 0 ≤ i
  ij : i ≤ j
  jn : j ≤ xs.length
  lo : ∀ k : Nat, (k : Int) < i → cmpS (xs.getD k z44).f1 p < 0
  hi : ∀ k : Nat, j ≤ (k : Int) → k < xs.length → ¬ cmpS (xs.getD k z44).f1 p < 0

set_option maxHeartbeats 2000000 in
set_option maxRecDepth 100000 in
theorem search_calls (A0 : Option Addr) (c0 : Nat) (xs : List S44) (p : ByteArray) (w : World) (hr0 : Kd.C k44 w A0 xs.length xs) (hc0 : xs.length ≤ c0) (hn : xs.length ≤ 4294967296)
    (hmono : ∀ a b : Nat, a ≤ b → b < xs.length → cmpS (xs.getD b z44).f1 p < 0 → cmpS (xs.getD a z44).f1 p < 0) :
    Calls Tryz.prog 99 #[.slice A0 xs.length c0, .string p, .func (.func 100) #[] #[]] w fun e w' => ∃ i : Nat, e = .returned (.tuple #[.int .i64 i, .bool (decide (i < xs.length) && decide (cmpS (xs.getD i z44).f1 p = 0))]) ∧ BsAt xs p i i ∧ Below w.heap.size w w' := by
  have HR := Aside0.mk hr0
  have HM := Aside0.mk hmono
  have hmax := Kd.C_max hr0
  clear hr0 hmono
  go_enter Tryz.func99, Tryz.ntmps99
  go_wp2
  go_loopw [9, 10] (fun v9 v10 wr => ∃ i j : Int, v9 = .int .i64 i ∧ v10 = .int .i64 j ∧ Aside0 (BsAt xs p i j) ∧ Aside0 (Below w.heap.size w wr)) (fun v9 v10 _ => (intOf v10 - intOf v9).toNat)
  case atStart => exact ⟨0, xs.length, rfl, rfl, ⟨⟨by omega, by omega, by omega, fun k hk => by omega, fun k h1 h2 => by omega⟩⟩, ⟨Below.refl _ _⟩⟩
  case round =>
    obtain ⟨i, j, rfl, rfl, hA, hB⟩ := hrel
    have hi0 := hA.out.i0; have hij := hA.out.ij; have hjn := hA.out.jn
    by_cases hlt : i < j
    · obtain ⟨h, he⟩ : ∃ h, (i + j) / 2 = h := ⟨_, rfl⟩
      have hh0 : 0 ≤ h := by omega
      have hh1 : h < j := by omega
      have hh2 : i ≤ h := by omega
      have hh3 : h < (xs.length : Int) := by omega
      obtain ⟨ad, eA, c0_, c1_, c2_, c3_, c4_, c5_⟩ := at_T44 (Kd.C_below HR.out hB.out) h hh0 hh3
      subst eA
      have HE := Aside0.mk he
      have hcr := cmpS_range (rd_T44 xs h).f1 p
      have hrd : rd_T44 xs h = xs.getD h.toNat z44 := rfl
      by_cases hlo : cmpS (rd_T44 xs h).f1 p < 0
      · have HN : Aside0 (BsAt xs p (h + 1) j) := ⟨⟨by omega, by omega, hjn, fun k hk => HM.out k h.toNat (by omega) (by omega) (by rw [← hrd]; exact hlo), hA.out.hi⟩⟩
        clear hrd
        go_wp2_with (first | (go_at_call 100; refine (by_calls (rd_T44 xs h) p _).mono ?_; rintro e w1 ⟨rfl, hb1⟩))
        go_roundw
        case rel => exact ⟨h + 1, j, rfl, rfl, HN, ⟨below_then hB.out hB.out.size hb1⟩⟩
        case measure => simp [intOf]; omega
      · have HN : Aside0 (BsAt xs p i h) := ⟨⟨hi0, hh2, by omega, hA.out.lo, fun k h1 h2 hk => hlo (by rw [hrd]; exact HM.out h.toNat k (by omega) h2 hk)⟩⟩
        clear hrd
        go_wp2_with (first | (go_at_call 100; refine (by_calls (rd_T44 xs h) p _).mono ?_; rintro e w1 ⟨rfl, hb1⟩))
        go_roundw
        case rel => exact ⟨i, h, rfl, rfl, HN, ⟨below_then hB.out hB.out.size hb1⟩⟩
        case measure => simp [intOf]; omega
    · obtain rfl : i = j := by omega
      by_cases hin : i < (xs.length : Int)
      · obtain ⟨ad, eA, c0_, c1_, c2_, c3_, c4_, c5_⟩ := at_T44 (Kd.C_below HR.out hB.out) i hi0 hin
        subst eA
        have hcr := cmpS_range (rd_T44 xs i).f1 p
        have HF : Aside0 ((decide (i.toNat < xs.length) && decide (cmpS (xs.getD i.toNat z44).f1 p = 0)) = (cmpS (rd_T44 xs i).f1 p == 0)) := ⟨by
          rw [decide_eq_true (show i.toNat < xs.length by omega), Bool.true_and]; rfl⟩
        go_wp2_with (first | (go_at_call 100; refine (by_calls (rd_T44 xs i) p _).mono ?_; rintro e w1 ⟨rfl, hb1⟩))
        go_ret2
        refine ⟨i.toNat, ?_, ?_, below_then hB.out hB.out.size hb1⟩
        · rw [HF.out, Int.toNat_of_nonneg hi0]; rfl
        · rw [Int.toNat_of_nonneg hi0]; exact hA.out
      · have HF : Aside0 ((decide (i.toNat < xs.length) && decide (cmpS (xs.getD i.toNat z44).f1 p = 0)) = false) := ⟨by
          rw [decide_eq_false (show ¬ i.toNat < xs.length by omega), Bool.false_and]⟩
        go_wp2
        go_ret2
        refine ⟨i.toNat, ?_, ?_, hB.out⟩
        · have h1 : ¬ i.toNat < xs.length := by omega
          rw [decide_eq_false h1, Bool.false_and, Int.toNat_of_nonneg hi0]; rfl
        · rw [Int.toNat_of_nonneg hi0]; exact hA.out
end Go.Proofs.YtkmcbpkciakmeaaGreatDoor.PA

/- tree.under answers whether no link or file stands above a path, of every sorted row ahead; nothing turns but the orders drawn. -/
set_option linter.unusedVariables false
set_option linter.unusedSimpArgs false
namespace Go.Proofs.YtkmcbpkciakmeaaGreatDoor.PA
open Go.RowKit Go.Proofs.YtkmcbpkciakmeaaGreatDoorW.PrintWords Go.Proofs.YtkmcbpkciakmeaaGreatDoorW.PrintLast Go.Proofs.YtkmcbpkciakmeaaGreatDoorW.PrintMore

/-! ### the order of texts -/
theorem bl_irrefl : ∀ a : List UInt8, Op.bytesLess a a = false
  | [] => rfl
  | a :: x => by simp [Op.bytesLess, bl_irrefl x]
theorem bl_trans : ∀ a b c : List UInt8, Op.bytesLess a b = true → Op.bytesLess b c = true → Op.bytesLess a c = true
  | [], [], _, h, _ => by simp [Op.bytesLess] at h
  | [], _ :: _, [], _, h => by simp [Op.bytesLess] at h
  | [], _ :: _, _ :: _, _, _ => by simp [Op.bytesLess]
  | _ :: _, [], _, h, _ => by simp [Op.bytesLess] at h
  | _ :: _, _ :: _, [], _, h => by simp [Op.bytesLess] at h
  | a :: x, b :: y, c :: z, h1, h2 => by
    simp only [Op.bytesLess, Bool.or_eq_true, decide_eq_true_eq, Bool.and_eq_true, beq_iff_eq] at h1 h2 ⊢
    simp only [UInt8.lt_iff_toNat_lt] at h1 h2 ⊢
    rcases h1 with h1 | ⟨rfl, h1⟩
    · rcases h2 with h2 | ⟨rfl, h2⟩
      · exact .inl (by omega)
      · exact .inl h1
    · rcases h2 with h2 | ⟨rfl, h2⟩
      · exact .inl h2
      · exact .inr ⟨rfl, bl_trans x y z h1 h2⟩
theorem bl_tri (a b : List UInt8) (h1 : Op.bytesLess a b = false) (h2 : Op.bytesLess b a = false) : a = b := by
  have := bytesLess_flip a b
  rw [h1, h2] at this
  simpa using this
theorem toList_inj {a b : ByteArray} (h : a.toList = b.toList) : a = b := by
  rw [Lib.toList_data, Lib.toList_data] at h
  exact ByteArray.ext (Array.ext' h)
theorem cmpS_neg {a b : ByteArray} : cmpS a b < 0 ↔ Op.bytesLess a.toList b.toList = true := by
  unfold cmpS
  repeat' split
  all_goals simp_all
theorem cmpS_zero {a b : ByteArray} : cmpS a b = 0 ↔ a = b := by
  unfold cmpS
  constructor
  · intro h
    repeat' split at h
    all_goals first | omega | skip
    rename_i h1 h2
    exact toList_inj (bl_tri _ _ (by simpa using h1) (by simpa using h2))
  · rintro rfl
    simp [bl_irrefl]
theorem cmpS_pos {a b : ByteArray} : cmpS a b > 0 ↔ Op.bytesLess b.toList a.toList = true := by
  unfold cmpS
  constructor
  · intro h
    repeat' split at h
    all_goals first | omega | assumption
  · intro h
    have h2 : Op.bytesLess a.toList b.toList = false := by
      rw [← Bool.not_eq_true]; intro h3
      have := bl_trans _ _ _ h h3
      rw [bl_irrefl] at this; cases this
    rw [h2, h]; simp

/-- Entries whose paths rise. -/
def Rises (xs : List S44) : Prop := ∀ a b : Nat, a < b → b < xs.length → Op.bytesLess (xs.getD a z44).f1.toList (xs.getD b z44).f1.toList = true
theorem Rises.mono {xs : List S44} (h : Rises xs) (p : ByteArray) : ∀ a b : Nat, a ≤ b → b < xs.length → cmpS (xs.getD b z44).f1 p < 0 → cmpS (xs.getD a z44).f1 p < 0 := by
  intro a b hab hb hc
  rcases Nat.eq_or_lt_of_le hab with rfl | hl
  · exact hc
  · rw [cmpS_neg] at hc ⊢
    exact bl_trans _ _ _ (h a b hl hb) hc

/-- Does an entry other than a folder stand at a path? -/
def blocks (xs : List S44) (p : ByteArray) : Bool := xs.any fun x => decide (x.f1 = p) && !decide (x.f0 = 2)
def underS (xs : List S44) (l : Bytes) : Bool := (parentsS l).all fun p => !blocks xs (str p)

theorem blocks_found {xs : List S44} (h : Rises xs) {p : ByteArray} {i : Nat} (hA : BsAt xs p i i) (hi : i < xs.length) (he : (xs.getD i z44).f1 = p) : blocks xs p = !decide ((xs.getD i z44).f0 = 2) := by
  unfold blocks
  rw [Bool.eq_iff_iff, List.any_eq_true]
  constructor
  · rintro ⟨x, hx, hh⟩
    obtain ⟨k, hk, rfl⟩ := List.getElem_of_mem hx
    simp only [Bool.and_eq_true, decide_eq_true_eq] at hh
    have hxk : xs.getD k z44 = xs[k] := by rw [List.getD_eq_getElem?_getD, List.getElem?_eq_getElem hk]; rfl
    have : k = i := by
      rcases Nat.lt_trichotomy k i with hl | hl | hl
      · have := h k i hl hi
        rw [hxk, hh.1, he, bl_irrefl] at this; cases this
      · exact hl
      · have := h i k hl hk
        rw [hxk, hh.1, he, bl_irrefl] at this; cases this
    subst this
    rw [hxk]; exact hh.2
  · intro hh
    have hxk : xs.getD i z44 = xs[i] := by rw [List.getD_eq_getElem?_getD, List.getElem?_eq_getElem hi]; rfl
    exact ⟨xs[i], List.getElem_mem hi, by rw [hxk] at he hh; rw [hh, decide_eq_true he]; rfl⟩
theorem blocks_not {xs : List S44} (h : Rises xs) {p : ByteArray} {i : Nat} (hA : BsAt xs p i i) (hn : ¬ (i < xs.length ∧ (xs.getD i z44).f1 = p)) : blocks xs p = false := by
  unfold blocks
  rw [List.any_eq_false]
  intro x hx
  obtain ⟨k, hk, rfl⟩ := List.getElem_of_mem hx
  have hxk : xs.getD k z44 = xs[k] := by rw [List.getD_eq_getElem?_getD, List.getElem?_eq_getElem hk]; rfl
  simp only [Bool.and_eq_true, decide_eq_true_eq]
  rintro ⟨he, _⟩
  have hki : ¬ k < i := by
    intro hl
    have := hA.lo k (by omega)
    rw [hxk, he, cmpS_neg, bl_irrefl] at this; cases this
  rcases Nat.eq_or_lt_of_le (Nat.le_of_not_lt hki) with rfl | hl
  · exact hn ⟨hk, by rw [hxk]; exact he⟩
  · have h1 := hA.hi i (Int.le_refl _) (by omega)
    have h2 := h i k hl hk
    rw [hxk, he] at h2
    exact h1 (cmpS_neg.2 h2)

structure UnAt (xs : List S44) (l : List ByteArray) (k : Nat) : Prop where
  le : k ≤ l.length
  ok : ∀ p ∈ l.take k, blocks xs p = false

set_option maxHeartbeats 2000000 in
set_option maxRecDepth 100000 in
theorem under_calls (A0 : Option Addr) (c0 : Nat) (xs : List S44) (s : ByteArray) (w : World) (hr0 : Kd.C k44 w A0 xs.length xs) (hc0 : xs.length ≤ c0) (hn : xs.length ≤ 4294967296) (hs : s.size ≤ 1073741824) (hR : Rises xs) :
    Calls Tryz.prog 64 #[.slice A0 xs.length c0, .string s] w fun e w' => e = .returned (.bool (underS xs s.data.toList)) ∧ Below w.heap.size w w' := by
  have HC := Aside0.mk hr0
  have HR := Aside0.mk hR
  have hmax := Kd.C_max hr0
  clear hr0 hR
  obtain ⟨ps, hps⟩ : ∃ ps, ps = (parentsS s.data.toList).map str := ⟨_, rfl⟩
  have hpl : ps.length ≤ 1073741824 := by rw [hps, List.length_map]; exact Nat.le_trans (parentsTo_len _ _) (by rw [data_length]; exact hs)
  have hall : Aside0 (underS xs s.data.toList = ps.all fun p => !blocks xs p) := ⟨by rw [hps, List.all_map]; rfl⟩
  have HP : ∀ W, Calls Tryz.prog 98 #[.string s] W fun e w' => ∃ A c, e = .returned (.slice A ps.length c) ∧ Kd.string.C w' A ps.length ps ∧ Below W.heap.size W w' := by
    intro W
    refine (parents_calls s W hs).mono ?_
    rintro e w' ⟨v, rfl, hr, hb⟩
    rw [← hps] at hr
    obtain ⟨A, c, rfl, _, hC⟩ := Kd.R_reads hr
    exact ⟨A, c, rfl, hC, hb⟩
  have HP := Aside0.mk HP
  clear hps
  go_enter Tryz.func64, Tryz.ntmps64
  go_wp2_with (first | (go_at_call 98; refine (HP.out _).mono ?_; rintro e w1 ⟨A, c, rfl, hC1, hb1⟩))
  have HC1 := Aside0.mk hC1
  clear hC1
  go_loopw [12] (fun v12 wr => ∃ k : Nat, v12 = .int .i64 k ∧ Aside0 (UnAt xs ps k) ∧ Aside0 (Below w1.heap.size w1 wr)) (fun v12 _ => ps.length - (intOf v12).toNat)
  case atStart => exact ⟨0, rfl, ⟨⟨by omega, by simp⟩⟩, ⟨Below.refl _ _⟩⟩
  case round =>
    obtain ⟨k, rfl, hA, hB⟩ := hrel
    by_cases hk : k < ps.length
    · obtain ⟨ad, rfl, hcell0⟩ := Kd.at_string HC1.out (k : Int) (by omega) (by omega)
      obtain ⟨p, hp⟩ : ∃ p, rdOf ByteArray.empty ps (k : Int) = p := ⟨_, rfl⟩
      rw [hp] at hcell0
      have hlt0 : ad.block < w1.heap.size := Kd.C_lt (d := Kd.string) HC1.out (show 0 < ps.length by omega) (by decide)
      have hlt : (ad.add k).block < w1.heap.size := by rw [add_block]; exact hlt0
      rw [Int.toNat_natCast] at hcell0
      have hcell : wr.cell? (ad.add k) = some (.string p) := (hB.out.cell (p := ad.add k) hlt).trans hcell0
      have HX : Aside0 (ps[k]? = some p) := ⟨by
        rw [← hp]; unfold rdOf; rw [Int.toNat_natCast, List.getD_eq_getElem?_getD, List.getElem?_eq_getElem hk]; rfl⟩
      clear hp
      have HS : ∀ W, Below w1.heap.size w1 W → Calls Tryz.prog 99 #[.slice A0 xs.length c0, .string p, .func (.func 100) #[] #[]] W fun e w' => ∃ i : Nat, e = .returned (.tuple #[.int .i64 i, .bool (decide (i < xs.length) && decide (cmpS (xs.getD i z44).f1 p = 0))]) ∧ BsAt xs p i i ∧ Below W.heap.size W w' := fun W hW => search_calls A0 c0 xs p W (Kd.C_below HC.out (hb1.trans (hW.mono hb1.size))) hc0 hn (HR.out.mono p)
      have HS := Aside0.mk HS
      go_wp2_with fail
      go_at_call 99
      refine (HS.out _ hB.out).mono ?_
      rintro e w2 ⟨i, rfl, hAt, hb2⟩
      have HAt := Aside0.mk hAt
      clear hAt
      have hBn : Aside0 (Below w1.heap.size w1 w2) := ⟨below_then hB.out hB.out.size hb2⟩
      have hC2 : Aside0 (k44.C w2 A0 xs.length xs) := ⟨Kd.C_below HC.out (hb1.trans (hBn.out.mono hb1.size))⟩
      by_cases hf : i < xs.length ∧ (xs.getD i z44).f1 = p
      · have hd : (decide (i < xs.length) && decide (cmpS (xs.getD i z44).f1 p = 0)) = true := by rw [decide_eq_true hf.1, decide_eq_true (cmpS_zero.2 hf.2)]; rfl
        have HBl := Aside0.mk (blocks_found HR.out HAt.out hf.1 hf.2)
        obtain ⟨ad2, eA, d0, _⟩ := at_T44 hC2.out (i : Int) (by omega) (by omega)
        subst eA
        have hrd : rd_T44 xs (i : Int) = xs.getD i z44 := rfl
        rw [hrd, Int.toNat_natCast] at d0
        obtain ⟨q, hq⟩ : ∃ q, (xs.getD i z44).f0 = q := ⟨_, rfl⟩
        rw [hq] at d0 HBl
        have hi1 : i < xs.length := hf.1
        rw [hd]
        clear hd hf hrd hq
        by_cases h2 : q = 2
        · have HN : Aside0 (UnAt xs ps (k + 1)) := ⟨⟨hk, fun p' hp' => by
            rw [List.take_add_one, HX.out] at hp'
            rcases List.mem_append.1 hp' with h | h
            · exact hA.out.ok p' h
            · rw [show p' = p by simpa using h, HBl.out, decide_eq_true h2]; rfl⟩⟩
          go_wp2
          go_roundw
          case rel => exact ⟨k + 1, rfl, HN, hBn⟩
          case measure => simp [intOf]; omega
        · have HF : Aside0 (underS xs s.data.toList = false) := ⟨by
            rw [hall.out, List.all_eq_false]
            exact ⟨p, List.mem_of_getElem? HX.out, by rw [HBl.out, decide_eq_false h2]; decide⟩⟩
          go_wp2
          go_ret
          exact ⟨by rw [HF.out]; rfl, below_then hb1 hb1.size hBn.out⟩
      · have hd : (decide (i < xs.length) && decide (cmpS (xs.getD i z44).f1 p = 0)) = false := by
          rw [Bool.and_eq_false_iff, decide_eq_false_iff_not, decide_eq_false_iff_not, cmpS_zero]
          exact Classical.not_and_iff_not_or_not.1 hf
        have HBl := Aside0.mk (blocks_not HR.out HAt.out hf)
        have HN : Aside0 (UnAt xs ps (k + 1)) := ⟨⟨hk, fun p' hp' => by
            rw [List.take_add_one, HX.out] at hp'
            rcases List.mem_append.1 hp' with h | h
            · exact hA.out.ok p' h
            · rw [show p' = p by simpa using h, HBl.out]⟩⟩
        rw [hd]
        clear hd hf
        go_wp2
        go_roundw
        case rel => exact ⟨k + 1, rfl, HN, hBn⟩
        case measure => simp [intOf]; omega
    · have HF : Aside0 (underS xs s.data.toList = true) := ⟨by
        rw [hall.out, List.all_eq_true]
        intro p hp
        have := hA.out.ok p (by rw [List.take_of_length_le (by omega)]; exact hp)
        rw [this]; rfl⟩
      go_wp2
      go_ret
      exact ⟨by rw [HF.out]; rfl, below_then hb1 hb1.size hB.out⟩
end Go.Proofs.YtkmcbpkciakmeaaGreatDoor.PA

/- tree.Check tells what is amiss first in a tree, of every tree whose texts are not great; nothing turns but the orders drawn. -/
set_option linter.unusedVariables false
set_option linter.unusedSimpArgs false
namespace Go.Proofs.YtkmcbpkciakmeaaGreatDoor.PA
open Go.RowKit Go.Proofs.YtkmcbpkciakmeaaGreatDoorW.PrintWords Go.Proofs.YtkmcbpkciakmeaaGreatDoorW.PrintLast Go.Proofs.YtkmcbpkciakmeaaGreatDoorW.PrintMore

attribute [local go_sem high] binOp_string_gtr_lt
/-- What is amiss at an entry. -/
def checkAt (xs : List S44) (i : Nat) : Int :=
  if rightS (xs.getD i z44) = false then 160
  else if (xs.getD i z44).f5.size > 1048576 then 162
  else if 0 < i ∧ (xs.getD (i - 1) z44).f1 = (xs.getD i z44).f1 then 161
  else if 0 < i ∧ Op.bytesLess (xs.getD i z44).f1.toList (xs.getD (i - 1) z44).f1.toList = true then 160
  else if underS (xs.take i) (xs.getD i z44).f1.data.toList = false then 160
  else 0
/-- The first that is amiss, from an entry on. -/
def checkFrom (xs : List S44) (i : Nat) : Nat → Int
  | 0 => 0
  | d + 1 => if checkAt xs i = 0 then checkFrom xs (i + 1) d else checkAt xs i
def checkS (xs : List S44) : Int := if xs.length > 1000 then 162 else checkFrom xs 0 xs.length

theorem checkAt_rises {xs : List S44} {i : Nat} (h : checkAt xs (i + 1) = 0) : Op.bytesLess (xs.getD i z44).f1.toList (xs.getD (i + 1) z44).f1.toList = true := by
  unfold checkAt at h
  rw [Nat.add_sub_cancel] at h
  split at h
  · omega
  · split at h
    · omega
    · split at h
      · omega
      · rename_i h1
        split at h
        · omega
        · rename_i h2
          rw [Bool.eq_false_or_eq_true (Op.bytesLess _ _) |>.resolve_right]
          intro h3
          have h4 : Op.bytesLess (xs.getD (i + 1) z44).f1.toList (xs.getD i z44).f1.toList = false := by
            rw [← Bool.not_eq_true]; intro h5; exact h2 ⟨by omega, h5⟩
          exact h1 ⟨by omega, toList_inj (bl_tri _ _ h3 h4)⟩
theorem rises_of_steps {xs : List S44} (h : ∀ i, i + 1 < xs.length → Op.bytesLess (xs.getD i z44).f1.toList (xs.getD (i + 1) z44).f1.toList = true) : Rises xs := by
  intro a b hab hb
  induction b with
  | zero => omega
  | succ b ih =>
    rcases Nat.lt_or_ge a b with h1 | h1
    · exact bl_trans _ _ _ (ih h1 (by omega)) (h b hb)
    · obtain rfl : a = b := by omega
      exact h a hb
theorem take_getD (xs : List S44) (n j : Nat) (h : j < n) : (xs.take n).getD j z44 = xs.getD j z44 := by
  rw [List.getD_eq_getElem?_getD, List.getD_eq_getElem?_getD, List.getElem?_take_of_lt h]
theorem rises_take {xs : List S44} {k : Nat} (hk : k ≤ xs.length) (h : ∀ j < k, checkAt xs j = 0) : Rises (xs.take k) := by
  apply rises_of_steps
  intro i hi
  rw [List.length_take] at hi
  rw [take_getD _ _ _ (by omega), take_getD _ _ _ (by omega)]
  exact checkAt_rises (h (i + 1) (by omega))

structure CkAt (xs : List S44) (k : Nat) : Prop where
  le : k ≤ xs.length
  ok : ∀ j < k, checkAt xs j = 0
  fin : checkS xs = checkFrom xs k (xs.length - k)
theorem CkAt.next {xs : List S44} {k : Nat} (h : CkAt xs k) (hk : k < xs.length) (hc : checkAt xs k = 0) : CkAt xs (k + 1) := by
  refine ⟨hk, fun j hj => ?_, ?_⟩
  · rcases Nat.lt_or_ge j k with h1 | h1
    · exact h.ok j h1
    · obtain rfl : j = k := by omega
      exact hc
  · rw [h.fin]
    obtain ⟨d, hd⟩ : ∃ d, xs.length - k = d + 1 := ⟨xs.length - k - 1, by omega⟩
    rw [hd, show xs.length - (k + 1) = d by omega, checkFrom, if_pos hc]
theorem CkAt.bad {xs : List S44} {k : Nat} (h : CkAt xs k) (hk : k < xs.length) {r : Int} (hc : checkAt xs k = r) (hr : r ≠ 0) : checkS xs = r := by
  rw [h.fin]
  obtain ⟨d, hd⟩ : ∃ d, xs.length - k = d + 1 := ⟨xs.length - k - 1, by omega⟩
  rw [hd, checkFrom, if_neg (by rw [hc]; exact hr), hc]

set_option maxHeartbeats 2000000 in
set_option maxRecDepth 100000 in
theorem check_calls (A0 : Option Addr) (c0 : Nat) (xs : List S44) (w : World) (hT : Tabs w) (hr0 : Kd.C k44 w A0 xs.length xs) (hc0 : xs.length ≤ c0) (hz : ∀ x ∈ xs, x.f1.size ≤ 1073741824 ∧ x.f2.size ≤ 1073741824 ∧ x.f5.size ≤ 9223372036854775807) :
    Calls Tryz.prog 31 #[.slice A0 xs.length c0] w fun e w' => e = .returned (.int .i64 (checkS xs)) ∧ Below w.heap.size w w' := by
  have HC := Aside0.mk hr0
  have HZ := Aside0.mk hz
  have HT := Aside0.mk hT
  have hmax := Kd.C_max hr0
  clear hr0 hz hT
  by_cases hl : xs.length > 1000
  · have HF : Aside0 (checkS xs = 162) := ⟨by unfold checkS; rw [if_pos hl]⟩
    go_enter Tryz.func31, Tryz.ntmps31
    go_wp2
    go_ret
    exact ⟨by rw [HF.out]; rfl, Below.refl _ _⟩
  · have hS : Aside0 (checkS xs = checkFrom xs 0 (xs.length - 0)) := ⟨by unfold checkS; rw [if_neg hl]; rfl⟩
    go_enter Tryz.func31, Tryz.ntmps31
    go_wp2
    go_loopw [10] (fun v10 wr => ∃ k : Nat, v10 = .int .i64 k ∧ Aside0 (CkAt xs k) ∧ Aside0 (Below w.heap.size w wr)) (fun v10 _ => xs.length - (intOf v10).toNat)
    case atStart => exact ⟨0, rfl, ⟨⟨by omega, fun j hj => by omega, hS.out⟩⟩, ⟨Below.refl _ _⟩⟩
    case round =>
      obtain ⟨k, rfl, hA, hB⟩ := hrel
      by_cases hk : k < xs.length
      · obtain ⟨ad, eA, c0_, c1_, c2_, c3_, c4_, c5_⟩ := at_T44 (Kd.C_below HC.out hB.out) (k : Int) (by omega) (by omega)
        have hrd : rd_T44 xs (k : Int) = xs.getD k z44 := rfl
        rw [hrd, Int.toNat_natCast] at c0_ c1_ c2_ c3_ c4_ c5_
        have hmem : xs.getD k z44 ∈ xs := by rw [List.getD_eq_getElem?_getD, List.getElem?_eq_getElem hk]; exact List.getElem_mem hk
        obtain ⟨x, hx⟩ : ∃ x, xs.getD k z44 = x := ⟨_, rfl⟩
        rw [hx] at c0_ c1_ c2_ c3_ c4_ c5_ hmem
        have HX := Aside0.mk hx
        obtain ⟨hz1, hz2, hz5⟩ := HZ.out x hmem
        have HT1 : Aside0 (Tabs wr) := ⟨HT.out.below hB.out⟩
        clear hrd hx hmem
        have hR : ∀ W, Tabs W → Calls Tryz.prog 63 #[entV x] W fun e w' => e = .returned (.bool (rightS x)) ∧ Below W.heap.size W w' := fun W hW => right_calls x W hW hz1 hz2
        have HU : Aside0 (∀ W, Below w.heap.size w W → Calls Tryz.prog 64 #[.slice A0 k c0, .string x.f1] W fun e w' => e = .returned (.bool (underS (xs.take k) x.f1.data.toList)) ∧ Below W.heap.size W w') := ⟨fun W hW => by
          have hl : (xs.take k).length = k := by rw [List.length_take]; omega
          have := under_calls A0 c0 (xs.take k) x.f1 W (Kd.C_take (Kd.C_below HC.out hW) (by omega)) (by omega) (by omega) hz1 (rises_take (by omega) hA.out.ok)
          rw [hl] at this; exact this⟩
        subst eA
        obtain ⟨x0, x1, x2, x3, x4, x5⟩ := x
        simp only [entV] at hR
        dsimp only at c0_ c1_ c2_ c3_ c4_ c5_ hz1 hz2 hz5 HU
        cases hri : rightS ⟨x0, x1, x2, x3, x4, x5⟩ with
        | false =>
          have HF : Aside0 (checkS xs = 160) := ⟨hA.out.bad hk (by unfold checkAt; rw [HX.out, if_pos hri]) (by omega)⟩
          rw [hri] at hR
          have HR := Aside0.mk hR
          clear hR hri
          go_wp2_with (first | (go_at_call 63; refine (HR.out _ (HT1.out.alloc _)).mono ?_; rintro e w1 ⟨rfl, hb⟩; obtain ⟨hcc, hzz, hT1⟩ := right_after HT1.out hb))
          go_ret
          exact ⟨by rw [HF.out]; rfl, below_then hB.out hB.out.size (right_below hb)⟩
        | true =>
          rw [hri] at hR
          have HR := Aside0.mk hR
          clear hR
          by_cases hd : 1048576 < x5.size
          · have HF : Aside0 (checkS xs = 162) := ⟨hA.out.bad hk (by unfold checkAt; rw [HX.out, hri, if_neg (by simp), if_pos hd]) (by omega)⟩
            clear hri
            go_wp2_with (first | (go_at_call 63; refine (HR.out _ (HT1.out.alloc _)).mono ?_; rintro e w1 ⟨rfl, hb⟩; obtain ⟨hcc, hzz, hT1⟩ := right_after HT1.out hb))
            go_ret
            exact ⟨by rw [HF.out]; rfl, below_then hB.out hB.out.size (right_below hb)⟩
          · by_cases hk0 : 0 < k
            · have hlen : ((k : Int) - 1 : Int) < xs.length := by omega
              obtain ⟨j, hj⟩ : ∃ j, k = j + 1 := ⟨k - 1, by omega⟩
              have hj2 : (k : Int) - 1 = (j : Int) := by omega
              have hd1 : (0 : Int) < (k : Int) := by omega
              obtain ⟨ad', eA', _, p1_, _⟩ := at_T44 (Kd.C_below HC.out hB.out) (j : Int) (by omega) (by omega)
              obtain rfl : ad = ad' := Option.some.inj eA'
              have hrdj : rd_T44 xs (j : Int) = xs.getD j z44 := rfl
              rw [hrdj, Int.toNat_natCast] at p1_
              obtain ⟨y1, hy⟩ : ∃ y1, (xs.getD (k - 1) z44).f1 = y1 := ⟨_, rfl⟩
              rw [show j = k - 1 by omega, hy] at p1_
              rw [show k - 1 = j by omega] at p1_
              have HY := Aside0.mk hy
              have HJ := Aside0.mk hj
              clear hy eA' hrdj hlen hj
              by_cases hE : y1 = x1
              · have HF : Aside0 (checkS xs = 161) := ⟨hA.out.bad hk (by unfold checkAt; rw [HX.out, hri, if_neg (by simp), if_neg hd, if_pos ⟨hk0, by rw [HY.out]; exact hE⟩]) (by omega)⟩
                have e1 : (y1.toList == x1.toList) = true := by rw [hE]; simp
                clear hri hE
                go_wp2_with (first | (go_at_call 63; refine (HR.out _ (HT1.out.alloc _)).mono ?_; rintro e w1 ⟨rfl, hb⟩; obtain ⟨hcc, hzz, hT1⟩ := right_after HT1.out hb))
                have hbW := right_below hb
                have hcW : w1.cell? ⟨wr.heap.size, 1, none⟩ = some (.string x1) := by rw [hcc 1]; simp
                clear hcc hb hT1 hzz
                have hpW : w1.cell? ⟨(ad.add (j * 6)).block, (ad.add (j * 6)).off + 1, none⟩ = some (.string y1) := (hbW.cell (p := ⟨(ad.add (j * 6)).block, (ad.add (j * 6)).off + 1, none⟩) (World.block_lt_of_cell? wr _ p1_)).trans p1_
                go_quiet (fail)
                go_wp2
                go_ret
                exact ⟨by rw [HF.out]; rfl, below_then hB.out hB.out.size (pw_below_drewN hbW nq)⟩
              · have e1 : (y1.toList == x1.toList) = false := by rw [beq_eq_false_iff_ne]; exact fun h => hE (toList_inj h)
                have hN1 : ¬ (0 < k ∧ (xs.getD (k - 1) z44).f1 = x1) := fun h => hE (by rw [← HY.out]; exact h.2)
                clear hE
                cases hG : Op.bytesLess x1.toList y1.toList with
                | true =>
                  have HF : Aside0 (checkS xs = 160) := ⟨hA.out.bad hk (by unfold checkAt; rw [HX.out, hri, if_neg (by simp), if_neg hd, if_neg hN1, if_pos ⟨hk0, by rw [HY.out]; exact hG⟩]) (by omega)⟩
                  clear hri hN1
                  go_wp2_with (first | (go_at_call 63; refine (HR.out _ (HT1.out.alloc _)).mono ?_; rintro e w1 ⟨rfl, hb⟩; obtain ⟨hcc, hzz, hT1⟩ := right_after HT1.out hb))
                  have hbW := right_below hb
                  have hcW : w1.cell? ⟨wr.heap.size, 1, none⟩ = some (.string x1) := by rw [hcc 1]; simp
                  clear hcc hb hT1 hzz
                  have hpW : w1.cell? ⟨(ad.add (j * 6)).block, (ad.add (j * 6)).off + 1, none⟩ = some (.string y1) := (hbW.cell (p := ⟨(ad.add (j * 6)).block, (ad.add (j * 6)).off + 1, none⟩) (World.block_lt_of_cell? wr _ p1_)).trans p1_
                  go_quiet (fail)
                  go_wp2
                  have hbW : Below wr.heap.size wr (w1.drewN nq) := pw_below_drewN hbW nq
                  have hcW : (w1.drewN nq).cell? ⟨wr.heap.size, 1, none⟩ = some (.string x1) := hcW
                  have hpW : (w1.drewN nq).cell? ⟨(ad.add (j * 6)).block, (ad.add (j * 6)).off + 1, none⟩ = some (.string y1) := hpW
                  generalize w1.drewN nq = W1 at hbW hcW hpW ⊢
                  go_quiet (fail)
                  go_wp2
                  go_ret
                  exact ⟨by rw [HF.out]; rfl, below_then hB.out hB.out.size (pw_below_drewN hbW nq)⟩
                | false =>
                  have hN2 : ¬ (0 < k ∧ Op.bytesLess x1.toList (xs.getD (k - 1) z44).f1.toList = true) := fun h => by rw [HY.out, hG] at h; cases h.2
                  cases hun : underS (xs.take k) x1.data.toList with
                  | false =>
                    have HF : Aside0 (checkS xs = 160) := ⟨hA.out.bad hk (by unfold checkAt; rw [HX.out, hri, if_neg (by simp), if_neg hd, if_neg hN1, if_neg hN2, if_pos hun]) (by omega)⟩
                    rw [hun] at HU
                    clear hun hri hN1 hN2
                    go_wp2_with (first | (go_at_call 63; refine (HR.out _ (HT1.out.alloc _)).mono ?_; rintro e w1 ⟨rfl, hb⟩; obtain ⟨hcc, hzz, hT1⟩ := right_after HT1.out hb))
                    have hbW := right_below hb
                    have hcW : w1.cell? ⟨wr.heap.size, 1, none⟩ = some (.string x1) := by rw [hcc 1]; simp
                    clear hcc hb hT1 hzz
                    have hpW : w1.cell? ⟨(ad.add (j * 6)).block, (ad.add (j * 6)).off + 1, none⟩ = some (.string y1) := (hbW.cell (p := ⟨(ad.add (j * 6)).block, (ad.add (j * 6)).off + 1, none⟩) (World.block_lt_of_cell? wr _ p1_)).trans p1_
                    go_quiet (fail)
                    go_wp2
                    have hbW : Below wr.heap.size wr (w1.drewN nq) := pw_below_drewN hbW nq
                    have hcW : (w1.drewN nq).cell? ⟨wr.heap.size, 1, none⟩ = some (.string x1) := hcW
                    have hpW : (w1.drewN nq).cell? ⟨(ad.add (j * 6)).block, (ad.add (j * 6)).off + 1, none⟩ = some (.string y1) := hpW
                    generalize w1.drewN nq = W1 at hbW hcW hpW ⊢
                    go_quiet (fail)
                    go_wp2
                    have hbW : Below wr.heap.size wr (W1.drewN nq) := pw_below_drewN hbW nq
                    have hcW : (W1.drewN nq).cell? ⟨wr.heap.size, 1, none⟩ = some (.string x1) := hcW
                    have hpW : (W1.drewN nq).cell? ⟨(ad.add (j * 6)).block, (ad.add (j * 6)).off + 1, none⟩ = some (.string y1) := hpW
                    generalize W1.drewN nq = W2 at hbW hcW hpW ⊢
                    have hbN : Below w.heap.size w W2 := below_then hB.out hB.out.size hbW
                    go_region_with (go_at_call 64; refine (HU.out _ (below_drew hbN)).mono ?_; rintro e w3 ⟨rfl, hb3⟩)
                    all_goals (go_wp2; go_ret; exact ⟨by rw [HF.out]; rfl, below_then (below_drew hbN) (below_drew hbN).size hb3⟩)
                  | true =>
                    have HN : Aside0 (CkAt xs (k + 1)) := ⟨hA.out.next hk (by unfold checkAt; rw [HX.out, hri, if_neg (by simp), if_neg hd, if_neg hN1, if_neg hN2, if_neg (by rw [hun]; simp)])⟩
                    rw [hun] at HU
                    clear hun hri hN1 hN2
                    go_wp2_with (first | (go_at_call 63; refine (HR.out _ (HT1.out.alloc _)).mono ?_; rintro e w1 ⟨rfl, hb⟩; obtain ⟨hcc, hzz, hT1⟩ := right_after HT1.out hb))
                    have hbW := right_below hb
                    have hcW : w1.cell? ⟨wr.heap.size, 1, none⟩ = some (.string x1) := by rw [hcc 1]; simp
                    clear hcc hb hT1 hzz
                    have hpW : w1.cell? ⟨(ad.add (j * 6)).block, (ad.add (j * 6)).off + 1, none⟩ = some (.string y1) := (hbW.cell (p := ⟨(ad.add (j * 6)).block, (ad.add (j * 6)).off + 1, none⟩) (World.block_lt_of_cell? wr _ p1_)).trans p1_
                    go_quiet (fail)
                    go_wp2
                    have hbW : Below wr.heap.size wr (w1.drewN nq) := pw_below_drewN hbW nq
                    have hcW : (w1.drewN nq).cell? ⟨wr.heap.size, 1, none⟩ = some (.string x1) := hcW
                    have hpW : (w1.drewN nq).cell? ⟨(ad.add (j * 6)).block, (ad.add (j * 6)).off + 1, none⟩ = some (.string y1) := hpW
                    generalize w1.drewN nq = W1 at hbW hcW hpW ⊢
                    go_quiet (fail)
                    go_wp2
                    have hbW : Below wr.heap.size wr (W1.drewN nq) := pw_below_drewN hbW nq
                    have hcW : (W1.drewN nq).cell? ⟨wr.heap.size, 1, none⟩ = some (.string x1) := hcW
                    have hpW : (W1.drewN nq).cell? ⟨(ad.add (j * 6)).block, (ad.add (j * 6)).off + 1, none⟩ = some (.string y1) := hpW
                    generalize W1.drewN nq = W2 at hbW hcW hpW ⊢
                    have hbN : Below w.heap.size w W2 := below_then hB.out hB.out.size hbW
                    go_region_with (go_at_call 64; refine (HU.out _ (below_drew hbN)).mono ?_; rintro e w3 ⟨rfl, hb3⟩)
                    all_goals (go_wp2; go_roundw; (case rel => exact ⟨k + 1, rfl, HN, ⟨below_then (below_drew hbN) (below_drew hbN).size hb3⟩⟩); (case measure => simp [intOf]; omega))
            · have hd0 : decide ((0 : Int) < (k : Int)) = false := by rw [decide_eq_false_iff_not]; omega
              cases hun : underS (xs.take k) x1.data.toList with
              | false =>
                have HF : Aside0 (checkS xs = 160) := ⟨hA.out.bad hk (by unfold checkAt; rw [HX.out, hri, if_neg (by simp), if_neg hd, if_neg (by omega), if_neg (by omega), if_pos hun]) (by omega)⟩
                rw [hun] at HU
                clear hun hri
                go_wp2_with (first | (go_at_call 63; refine (HR.out _ (HT1.out.alloc _)).mono ?_; rintro e w1 ⟨rfl, hb⟩; obtain ⟨hcc, hzz, hT1⟩ := right_after HT1.out hb))
                have hbW := right_below hb
                have hcW : w1.cell? ⟨wr.heap.size, 1, none⟩ = some (.string x1) := by rw [hcc 1]; simp
                clear hcc hb hT1 hzz
                go_quiet (fail)
                go_wp2
                have hbW : Below wr.heap.size wr (w1.drewN nq) := pw_below_drewN hbW nq
                have hcW : (w1.drewN nq).cell? ⟨wr.heap.size, 1, none⟩ = some (.string x1) := hcW
                generalize w1.drewN nq = W1 at hbW hcW ⊢
                go_quiet (fail)
                go_wp2
                have hbW : Below wr.heap.size wr (W1.drewN nq) := pw_below_drewN hbW nq
                have hcW : (W1.drewN nq).cell? ⟨wr.heap.size, 1, none⟩ = some (.string x1) := hcW
                generalize W1.drewN nq = W2 at hbW hcW ⊢
                have hbN : Below w.heap.size w W2 := below_then hB.out hB.out.size hbW
                go_region_with (go_at_call 64; refine (HU.out _ (below_drew hbN)).mono ?_; rintro e w3 ⟨rfl, hb3⟩)
                all_goals (go_wp2; go_ret; exact ⟨by rw [HF.out]; rfl, below_then (below_drew hbN) (below_drew hbN).size hb3⟩)
              | true =>
                have HN : Aside0 (CkAt xs (k + 1)) := ⟨hA.out.next hk (by unfold checkAt; rw [HX.out, hri, if_neg (by simp), if_neg hd, if_neg (by omega), if_neg (by omega), if_neg (by rw [hun]; simp)])⟩
                rw [hun] at HU
                clear hun hri
                go_wp2_with (first | (go_at_call 63; refine (HR.out _ (HT1.out.alloc _)).mono ?_; rintro e w1 ⟨rfl, hb⟩; obtain ⟨hcc, hzz, hT1⟩ := right_after HT1.out hb))
                have hbW := right_below hb
                have hcW : w1.cell? ⟨wr.heap.size, 1, none⟩ = some (.string x1) := by rw [hcc 1]; simp
                clear hcc hb hT1 hzz
                go_quiet (fail)
                go_wp2
                have hbW : Below wr.heap.size wr (w1.drewN nq) := pw_below_drewN hbW nq
                have hcW : (w1.drewN nq).cell? ⟨wr.heap.size, 1, none⟩ = some (.string x1) := hcW
                generalize w1.drewN nq = W1 at hbW hcW ⊢
                go_quiet (fail)
                go_wp2
                have hbW : Below wr.heap.size wr (W1.drewN nq) := pw_below_drewN hbW nq
                have hcW : (W1.drewN nq).cell? ⟨wr.heap.size, 1, none⟩ = some (.string x1) := hcW
                generalize W1.drewN nq = W2 at hbW hcW ⊢
                have hbN : Below w.heap.size w W2 := below_then hB.out hB.out.size hbW
                go_region_with (go_at_call 64; refine (HU.out _ (below_drew hbN)).mono ?_; rintro e w3 ⟨rfl, hb3⟩)
                all_goals (go_wp2; go_roundw; (case rel => exact ⟨k + 1, rfl, HN, ⟨below_then (below_drew hbN) (below_drew hbN).size hb3⟩⟩); (case measure => simp [intOf]; omega))
      · have HF : Aside0 (checkS xs = 0) := ⟨by rw [hA.out.fin, show xs.length - k = 0 by omega]; rfl⟩
        go_wp2
        go_ret
        exact ⟨by rw [HF.out]; rfl, hB.out⟩
end Go.Proofs.YtkmcbpkciakmeaaGreatDoor.PA

/- tree.Can tells whether a tree can be written as an archive of the second format; nothing turns but the orders drawn. -/
set_option linter.unusedVariables false
set_option linter.unusedSimpArgs false
namespace Go.Proofs.YtkmcbpkciakmeaaGreatDoor.PA
open Go.RowKit Go.Proofs.YtkmcbpkciakmeaaGreatDoorW.PrintWords Go.Proofs.YtkmcbpkciakmeaaGreatDoorW.PrintLast Go.Proofs.YtkmcbpkciakmeaaGreatDoorW.PrintMore

def timeOk (t : Int) : Bool := decide (-9000000000000000000 ≤ t) && decide (t ≤ 9000000000000000000)
def canS (xs : List S44) : Bool := decide (checkS xs = 0) && !xs.any fun x => !timeOk x.f4

set_option maxHeartbeats 1000000 in
set_option maxRecDepth 100000 in
theorem holds_calls (t : Int) (w : World) :
    Calls Tryz.prog 44 #[.int .i64 t, .int .i64 2] w fun e w' => e = .returned (.bool (timeOk t)) ∧ w' = w := by
  by_cases h1 : -9000000000000000000 ≤ t
  · by_cases h2 : t ≤ 9000000000000000000
    · have HF : Aside0 (timeOk t = true) := ⟨by unfold timeOk; rw [decide_eq_true h1, decide_eq_true h2]; rfl⟩
      go_enter Tryz.func44, Tryz.ntmps44
      go_wp2
      go_ret
      exact ⟨by rw [HF.out]; rfl, rfl⟩
    · have HF : Aside0 (timeOk t = false) := ⟨by unfold timeOk; rw [decide_eq_false h2]; simp⟩
      go_enter Tryz.func44, Tryz.ntmps44
      go_wp2
      go_ret
      exact ⟨by rw [HF.out]; rfl, rfl⟩
  · have HF : Aside0 (timeOk t = false) := ⟨by unfold timeOk; rw [decide_eq_false h1]; rfl⟩
    go_enter Tryz.func44, Tryz.ntmps44
    go_wp2
    go_ret
    exact ⟨by rw [HF.out]; rfl, rfl⟩

set_option maxHeartbeats 1000000 in
set_option maxRecDepth 100000 in
theorem canf_calls (x : S44) (b : Addr) (w : World) (hb : w.cell? b = some (.int .i64 2)) (hb2 : b.block < w.heap.size) :
    Calls Tryz.prog 43 #[entV x, .pointer (some b)] w fun e w' => e = .returned (.bool (!timeOk x.f4)) ∧ Below w.heap.size w w' := by
  obtain ⟨x0, x1, x2, x3, x4, x5⟩ := x
  simp only [entV]
  have hc : ∀ o, (w.alloc o).cell? b = some (.int .i64 2) := fun o => ((below_alloc (Below.refl w.heap.size w) o).cell hb2).trans hb
  go_enter Tryz.func43, Tryz.ntmps43
  go_wp2_with (first | (go_at_call 44; refine (holds_calls x4 _).mono ?_; rintro e w1 ⟨rfl, rfl⟩))
  go_ret
  exact ⟨rfl, below_alloc (Below.refl _ _) _⟩

set_option maxHeartbeats 1000000 in
set_option maxRecDepth 100000 in
theorem indexf_calls (A0 : Option Addr) (c0 : Nat) (xs : List S44) (b : Addr) (w : World) (hr0 : Kd.C k44 w A0 xs.length xs) (hc0 : xs.length ≤ c0) (hb : w.cell? b = some (.int .i64 2)) (hb2 : b.block < w.heap.size) :
    Calls Tryz.prog 74 #[.slice A0 xs.length c0, .func (.func 43) #[] #[.pointer (some b)]] w fun e w' => ∃ i : Int, e = .returned (.int .i64 i) ∧ -1 ≤ i ∧ i ≤ 9223372036854775807 ∧ ((xs.any fun x => !timeOk x.f4) = decide (0 ≤ i)) ∧ Below w.heap.size w w' := by
  have HC := Aside0.mk hr0
  have hmax := Kd.C_max hr0
  clear hr0
  go_enter Tryz.func74, Tryz.ntmps74
  go_wp2
  go_loopw [8] (fun v8 wr => ∃ k : Nat, v8 = .int .i64 k ∧ k ≤ xs.length ∧ Aside0 (∀ j, j < k → timeOk (xs.getD j z44).f4 = true) ∧ Aside0 (Below w.heap.size w wr)) (fun v8 _ => xs.length - (intOf v8).toNat)
  case atStart => exact ⟨0, rfl, by omega, ⟨fun j hj => by omega⟩, ⟨Below.refl _ _⟩⟩
  case round =>
    obtain ⟨k, rfl, hkl, hA, hB⟩ := hrel
    by_cases hk : k < xs.length
    · obtain ⟨ad, eA, c0_, c1_, c2_, c3_, c4_, c5_⟩ := at_T44 (Kd.C_below HC.out hB.out) (k : Int) (by omega) (by omega)
      have hrd : rd_T44 xs (k : Int) = xs.getD k z44 := rfl
      rw [hrd, Int.toNat_natCast] at c0_ c1_ c2_ c3_ c4_ c5_
      have hmem : xs.getD k z44 ∈ xs := by rw [List.getD_eq_getElem?_getD, List.getElem?_eq_getElem hk]; exact List.getElem_mem hk
      obtain ⟨x, hx⟩ : ∃ x, xs.getD k z44 = x := ⟨_, rfl⟩
      rw [hx] at c0_ c1_ c2_ c3_ c4_ c5_ hmem
      have HX := Aside0.mk hx
      have HM := Aside0.mk hmem
      have hcb : wr.cell? b = some (.int .i64 2) := (hB.out.cell hb2).trans hb
      have hlb : b.block < wr.heap.size := Nat.lt_of_lt_of_le hb2 hB.out.size
      have H43 := Aside0.mk (canf_calls x b wr hcb hlb)
      clear hrd hx hmem
      subst eA
      obtain ⟨x0, x1, x2, x3, x4, x5⟩ := x
      dsimp only at c0_ c1_ c2_ c3_ c4_ c5_ H43
      cases ht : timeOk x4 with
      | true =>
        have HN : Aside0 (∀ j, j < k + 1 → timeOk (xs.getD j z44).f4 = true) := ⟨fun j hj => by
          rcases Nat.lt_or_ge j k with h | h
          · exact hA.out j h
          · obtain rfl : j = k := by omega
            rw [HX.out]; exact ht⟩
        rw [ht] at H43
        simp only [entV] at H43
        clear ht
        go_wp2_with (first | (go_at_call 43; refine (H43.out).mono ?_; rintro e w1 ⟨rfl, hb1⟩))
        go_roundw
        case rel => exact ⟨k + 1, rfl, hk, HN, ⟨below_then hB.out hB.out.size hb1⟩⟩
        case measure => simp [intOf]; omega
      | false =>
        have HF : Aside0 ((xs.any fun x => !timeOk x.f4) = true) := ⟨by rw [List.any_eq_true]; exact ⟨_, HM.out, by dsimp only; rw [ht]; rfl⟩⟩
        rw [ht] at H43
        simp only [entV] at H43
        clear ht
        go_wp2_with (first | (go_at_call 43; refine (H43.out).mono ?_; rintro e w1 ⟨rfl, hb1⟩))
        go_ret
        exact ⟨k, rfl, by omega, by omega, by rw [HF.out]; exact (decide_eq_true (by omega)).symm, below_then hB.out hB.out.size hb1⟩
    · have HF : Aside0 ((xs.any fun x => !timeOk x.f4) = false) := ⟨by
        rw [List.any_eq_false]
        intro x hx
        obtain ⟨j, hj, rfl⟩ := List.getElem_of_mem hx
        have := hA.out j (by omega)
        rw [List.getD_eq_getElem?_getD, List.getElem?_eq_getElem hj] at this
        simp only [Option.getD_some] at this
        rw [this]; decide⟩
      go_wp2
      go_ret
      exact ⟨-1, rfl, by omega, by omega, by rw [HF.out]; rfl, hB.out⟩

set_option maxHeartbeats 1000000 in
set_option maxRecDepth 100000 in
theorem containsf_calls (A0 : Option Addr) (c0 : Nat) (xs : List S44) (b : Addr) (w : World) (hr0 : Kd.C k44 w A0 xs.length xs) (hc0 : xs.length ≤ c0) (hb : w.cell? b = some (.int .i64 2)) (hb2 : b.block < w.heap.size) :
    Calls Tryz.prog 42 #[.slice A0 xs.length c0, .func (.func 43) #[] #[.pointer (some b)]] w fun e w' => e = .returned (.bool (xs.any fun x => !timeOk x.f4)) ∧ Below w.heap.size w w' := by
  have H := Aside0.mk (indexf_calls A0 c0 xs b w hr0 hc0 hb hb2)
  clear hr0
  go_enter Tryz.func42, Tryz.ntmps42
  go_wp2_with (first | (go_at_call 74; refine (H.out).mono ?_; rintro e w1 ⟨i, rfl, hi0, hi1, hi, hb1⟩))
  go_ret
  exact ⟨by rw [hi]; rfl, hb1⟩

set_option maxHeartbeats 1000000 in
set_option maxRecDepth 100000 in
theorem can_calls (A0 : Option Addr) (c0 : Nat) (xs : List S44) (w : World) (hT : Tabs w) (hr0 : Kd.C k44 w A0 xs.length xs) (hc0 : xs.length ≤ c0) (hz : ∀ x ∈ xs, x.f1.size ≤ 1073741824 ∧ x.f2.size ≤ 1073741824 ∧ x.f5.size ≤ 9223372036854775807) :
    Calls Tryz.prog 22 #[.slice A0 xs.length c0, .int .i64 2] w fun e w' => e = .returned (.bool (canS xs)) ∧ Below w.heap.size w w' := by
  have H1 : ∀ W, Below w.heap.size w W → Calls Tryz.prog 31 #[.slice A0 xs.length c0] W fun e w' => e = .returned (.int .i64 (checkS xs)) ∧ Below W.heap.size W w' := fun W hW => check_calls A0 c0 xs W (hT.below hW) (Kd.C_below hr0 hW) hc0 hz
  have H2 : ∀ W b, Below w.heap.size w W → W.cell? b = some (.int .i64 2) → b.block < W.heap.size → Calls Tryz.prog 42 #[.slice A0 xs.length c0, .func (.func 43) #[] #[.pointer (some b)]] W fun e w' => e = .returned (.bool (xs.any fun x => !timeOk x.f4)) ∧ Below W.heap.size W w' := fun W b hW h1 h2 => containsf_calls A0 c0 xs b W (Kd.C_below hr0 hW) hc0 h1 h2
  have HS : Aside0 (∀ c, checkS xs = c → canS xs = (decide (c = 0) && !xs.any fun x => !timeOk x.f4)) := ⟨fun c h => by rw [← h]; rfl⟩
  obtain ⟨c, hc⟩ : ∃ c, checkS xs = c := ⟨_, rfl⟩
  rw [hc] at H1
  have HS := Aside0.mk (HS.out c hc)
  generalize (xs.any fun x => !timeOk x.f4) = T at H2 HS
  have H1 := Aside0.mk H1
  have H2 := Aside0.mk H2
  clear hr0 hc hz hT
  by_cases h0 : c = 0
  · subst h0
    go_enter Tryz.func22, Tryz.ntmps22
    go_wp2_with (first | (go_at_call 31; refine (H1.out _ (below_alloc (Below.refl _ _) _)).mono ?_; rintro e w1 ⟨rfl, hb1⟩; have hcell : w1.cell? ⟨w.heap.size, 0, none⟩ = some (.int .i64 2) := (hb1.cell (p := ⟨w.heap.size, 0, none⟩) (by simp)).trans (by simp); have hlt : (⟨w.heap.size, 0, none⟩ : Addr).block < w1.heap.size := (by have := hb1.size; simp at this ⊢; omega)) | (go_at_call 42; refine (H2.out _ _ (right_below hb1) hcell hlt).mono ?_; rintro e w2 ⟨rfl, hb2⟩))
    go_ret
    exact ⟨by rw [HS.out]; simp, below_then (right_below hb1) (right_below hb1).size hb2⟩
  · have e1 : (c == 0) = false := by rw [beq_eq_false_iff_ne]; exact h0
    have HS : Aside0 (canS xs = false) := ⟨by rw [HS.out, decide_eq_false h0]; rfl⟩
    clear h0
    go_enter Tryz.func22, Tryz.ntmps22
    go_wp2_with (first | (go_at_call 31; refine (H1.out _ (below_alloc (Below.refl _ _) _)).mono ?_; rintro e w1 ⟨rfl, hb1⟩))
    go_ret
    exact ⟨by rw [HS.out]; rfl, right_below hb1⟩
end Go.Proofs.YtkmcbpkciakmeaaGreatDoor.PA
