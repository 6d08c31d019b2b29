/- Trees are written; blocks of zeros, names, what stands in a header. -/
import Derived.Test.YtkmcbpkciakmeaaGreatDoorMwritten
import Derived.Test.YtkmcbpkciakmeaaGreatDoorMcheck
import Derived.Test.YtkmcbpkciakmeaaGreatDoorMfields
import Derived.Deep.QuietTactic
import Derived.BigQuiet
import Derived.Deep.RegionWith

/- tarfmt.Write: the walk; new blocks alone are written. -/
set_option linter.unusedVariables false
set_option linter.unusedSimpArgs false
namespace Go.Proofs.YtkmcbpkciakmeaaGreatDoor.PA
open Go.RowKit Go.Proofs.YtkmcbpkciakmeaaGreatDoorW.PrintWords Go.Proofs.YtkmcbpkciakmeaaGreatDoorW.PrintLast Go.Proofs.YtkmcbpkciakmeaaGreatDoorW.PrintMore

def bodyS (xs : List S44) : Bytes := xs.flatMap writtenS
def writeS (xs : List S44) : Bytes := bodyS xs ++ List.replicate 1024 0

/-- What an entry that may be is. -/
structure Fine (x : S44) : Prop where
  path : x.f1.size ≤ 200
  link : x.f2.size ≤ 200
  data : x.f5.size ≤ 1048576
  mode : 0 ≤ x.f3 ∧ x.f3 < 4096
  time : -9000000000000000000 ≤ x.f4 ∧ x.f4 ≤ 9000000000000000000
  kind : x.f0 = 1 ∨ x.f0 = 2 ∨ x.f0 = 3
  right : rightS x = true
theorem cleanS_len (l : Bytes) (h : (cleanS l).2 = 0) : (cleanS l).1.length ≤ 200 := by
  revert h
  unfold cleanS
  split
  · intro h; simp at h
  · unfold cleanEnd
    split
    · intro h; simp at h
    · split
      · intro h; simp at h
      · rename_i hc
        intro _
        have h2 := (not_or.1 hc).2
        dsimp only
        omega
theorem checkFrom_zero (xs : List S44) : ∀ (d i : Nat), checkFrom xs i d = 0 → ∀ j, i ≤ j → j < i + d → checkAt xs j = 0
  | 0, i, _, j, h1, h2 => by omega
  | d + 1, i, h, j, h1, h2 => by
    rw [checkFrom] at h
    split at h
    · rename_i hc
      rcases Nat.eq_or_lt_of_le h1 with rfl | h3
      · exact hc
      · exact checkFrom_zero xs d (i + 1) h j h3 (by omega)
    · rename_i hc; exact absurd h hc
theorem checkS_zero {xs : List S44} (h : checkS xs = 0) : xs.length ≤ 1000 ∧ ∀ j < xs.length, checkAt xs j = 0 := by
  unfold checkS at h
  split at h
  · omega
  · exact ⟨by omega, fun j hj => checkFrom_zero xs xs.length 0 h j (by omega) (by omega)⟩
theorem targetS_len (l : Bytes) (h : targetS l = true) : l.length ≤ 200 := by
  unfold targetS at h
  simp only [Bool.and_eq_true, decide_eq_true_eq] at h
  exact h.1.1.2
theorem fine_of_right {x : S44} (h : rightS x = true) (h5 : x.f5.size ≤ 1048576) (ht : timeOk x.f4 = true) : Fine x := by
  have hr := h
  unfold rightS at h
  simp only [Bool.and_eq_true, decide_eq_true_eq] at h
  obtain ⟨⟨⟨⟨h1, h2⟩, h3⟩, h4⟩, h6⟩ := h
  have hp := cleanS_len _ h1
  rw [h2, data_length] at hp
  unfold timeOk at ht
  simp only [Bool.and_eq_true, decide_eq_true_eq] at ht
  have hemp : ∀ s : ByteArray, s.toList.isEmpty = true → s.size = 0 := fun s hs => by
    rw [Lib.toList_data, List.isEmpty_iff] at hs
    rw [size_data, hs]; rfl
  unfold kindS at h6
  split at h6
  · rename_i k1
    exact ⟨hp, by rw [hemp _ h6]; omega, h5, ⟨h3, h4⟩, ht, .inl k1, hr⟩
  · split at h6
    · rename_i k2
      simp only [Bool.and_eq_true] at h6
      exact ⟨hp, by rw [hemp _ h6.2]; omega, h5, ⟨h3, h4⟩, ht, .inr (.inl k2), hr⟩
    · split at h6
      · rename_i k3
        simp only [Bool.and_eq_true] at h6
        have := targetS_len _ h6.2
        rw [data_length] at this
        exact ⟨hp, this, h5, ⟨h3, h4⟩, ht, .inr (.inr k3), hr⟩
      · cases h6
theorem can_fine {xs : List S44} (h : canS xs = true) : xs.length ≤ 1000 ∧ ∀ x ∈ xs, Fine x := by
  unfold canS at h
  simp only [Bool.and_eq_true, decide_eq_true_eq, Bool.not_eq_true', List.any_eq_false] at h
  obtain ⟨h1, h2⟩ := h
  obtain ⟨h3, h4⟩ := checkS_zero h1
  refine ⟨h3, fun x hx => ?_⟩
  obtain ⟨j, hj, rfl⟩ := List.getElem_of_mem hx
  have hc := h4 j hj
  have hg : xs.getD j z44 = xs[j] := by rw [List.getD_eq_getElem?_getD, List.getElem?_eq_getElem hj]; rfl
  unfold checkAt at hc
  rw [hg] at hc
  split at hc
  · omega
  · rename_i hr
    split at hc
    · omega
    · rename_i hd
      exact fine_of_right (by simpa using hr) (by omega) (by simpa using h2 _ hx)
theorem writtenS_len {x : S44} (h : Fine x) : (writtenS x).length ≤ 1060000 := by
  have e1 := paxS_len x h.path h.link (by have := h.time; omega) (by have := h.time; omega)
  have e2 := fillS_le x.f5.data.toList
  rw [data_length] at e2
  have e3 := h.data
  have hf : (hdX x (secsOf x.f4)).fits := by
    have := h.mode
    have h9 := secsOf_lt x.f4
    exact ⟨octL_fit8 (show x.f3.toNat < 2097152 by omega), octL_fit12 (show x.f5.size < 8589934592 by omega), octL_fit12 h9, show x.f3.toNat ≤ 4611686018427387904 by omega, show x.f5.size ≤ 4611686018427387904 by omega, show secsOf x.f4 ≤ 4611686018427387904 by omega⟩
  unfold writtenS
  rw [List.length_append, List.length_append, hdS_len _ hf]
  omega
theorem bodyS_len : ∀ (xs : List S44), (∀ x ∈ xs, Fine x) → (bodyS xs).length ≤ xs.length * 1060000
  | [], _ => by simp [bodyS]
  | x :: xs, h => by
    have h1 := writtenS_len (h x (List.mem_cons_self ..))
    have h2 := bodyS_len xs (fun y hy => h y (List.mem_cons_of_mem _ hy))
    unfold bodyS at h2 ⊢
    rw [List.flatMap_cons, List.length_append, List.length_cons, Nat.add_mul]
    omega
theorem bodyS_take (xs : List S44) (k : Nat) (hk : k < xs.length) : bodyS (xs.take (k + 1)) = bodyS (xs.take k) ++ writtenS (xs.getD k z44) := by
  unfold bodyS
  rw [List.take_add_one, List.getElem?_eq_getElem hk, List.flatMap_append, List.getD_eq_getElem?_getD, List.getElem?_eq_getElem hk]
  simp

set_option maxHeartbeats 2000000 in
set_option maxRecDepth 100000 in
theorem write_calls_no (A0 : Option Addr) (c0 : Nat) (xs : List S44) (w : World) (hT : Tabs w) (hr0 : Kd.C k44 w A0 xs.length xs) (hc0 : xs.length ≤ c0) (hz : ∀ x ∈ xs, x.f1.size ≤ 1073741824 ∧ x.f2.size ≤ 1073741824 ∧ x.f5.size ≤ 9223372036854775807) (hcan : canS xs = false) :
    Calls Tryz.prog 11 #[.slice A0 xs.length c0] w fun e w' => e = .returned (.tuple #[.slice none 0 0, .bool false]) ∧ Below w.heap.size w w' := by
  have H22 := can_calls A0 c0 xs w hT hr0 hc0 hz
  rw [hcan] at H22
  have H22 := Aside0.mk H22
  clear hr0 hz hcan
  go_enter Tryz.func11, Tryz.ntmps11
  go_wp2_with (first | (go_at_call 22; refine (H22.out).mono ?_; rintro e w1 ⟨rfl, hb1⟩))
  go_ret2
  exact ⟨rfl, hb1⟩

structure WsAt (w : World) (xs : List S44) (v : Value) (k : Nat) (W : World) : Prop where
  le : k ≤ xs.length
  below : Below w.heap.size w W
  bin : Bin W w.heap.size v (bodyS (xs.take k))

set_option maxHeartbeats 2000000 in
set_option maxRecDepth 100000 in
theorem write_calls_yes (A0 : Option Addr) (c0 : Nat) (xs : List S44) (w : World) (hT : Tabs w) (hr0 : Kd.C k44 w A0 xs.length xs) (hc0 : xs.length ≤ c0) (hz : ∀ x ∈ xs, x.f1.size ≤ 1073741824 ∧ x.f2.size ≤ 1073741824 ∧ x.f5.size ≤ 9223372036854775807) (hcan : canS xs = true) :
    Calls Tryz.prog 11 #[.slice A0 xs.length c0] w fun e w' => ∃ v, e = .returned (.tuple #[v, .bool true]) ∧ Bin w' w.heap.size v (writeS xs) ∧ Below w.heap.size w w' := by
  obtain ⟨hl, hfine⟩ := can_fine hcan
  have H22 := can_calls A0 c0 xs w hT hr0 hc0 hz
  rw [hcan] at H22
  have H22 := Aside0.mk H22
  have HC := Aside0.mk hr0
  have HT := Aside0.mk hT
  have HF := Aside0.mk hfine
  have hbl : ∀ k, (bodyS (xs.take k)).length ≤ 1060000000 := fun k => by
    have := bodyS_len (xs.take k) (fun x hx => hfine x (List.mem_of_mem_take hx))
    rw [List.length_take] at this
    have h2 : min k xs.length * 1060000 ≤ 1000 * 1060000 := Nat.mul_le_mul_right _ (by omega)
    omega
  have HL := Aside0.mk hbl
  clear hr0 hz hcan hT hfine hbl
  go_enter Tryz.func11, Tryz.ntmps11
  go_wp2_with (first | (go_at_call 22; refine (H22.out).mono ?_; rintro e w1 ⟨rfl, hb1⟩))
  go_loopw [4, 12] (fun v4 v12 wr => ∃ k : Nat, v12 = .int .i64 k ∧ Aside0 (WsAt w xs v4 k wr)) (fun _ v12 _ => xs.length - (intOf v12).toNat)
  case atStart => exact ⟨0, rfl, ⟨⟨by omega, hb1, Bin.nil _ _⟩⟩⟩
  case round =>
    obtain ⟨k, rfl, hA⟩ := hrel
    by_cases hk : k < xs.length
    · obtain ⟨ad, eA, c0_, c1_, c2_, c3_, c4_, c5_⟩ := at_T44 (Kd.C_below HC.out hA.out.below) (k : Int) (by omega) (by omega)
      have hrd : rd_T44 xs (k : Int) = xs.getD k z44 := rfl
      rw [hrd, Int.toNat_natCast] at c0_ c1_ c2_ c3_ c4_ c5_
      have hmem : xs.getD k z44 ∈ xs := by rw [List.getD_eq_getElem?_getD, List.getElem?_eq_getElem hk]; exact List.getElem_mem hk
      obtain ⟨x, hx⟩ : ∃ x, xs.getD k z44 = x := ⟨_, rfl⟩
      rw [hx] at c0_ c1_ c2_ c3_ c4_ c5_ hmem
      have HX := Aside0.mk hx
      have hfx := HF.out x hmem
      have HFX := Aside0.mk hfx
      have hwl := writtenS_len hfx
      have H23 : ∀ W, Tabs W → Calls Tryz.prog 23 #[entV x] W fun e w' => ∃ v, e = .returned v ∧ Bin w' W.heap.size v (writtenS x) ∧ Below W.heap.size W w' := fun W hW => by
        have := hfx.mode; have := hfx.time; have := hfx.kind
        exact written_calls x x.f3.toNat W hW (by omega) (by omega) hfx.data hfx.path hfx.link (by omega) (by omega) (by omega) (by omega)
      clear hrd hx hmem hfx
      subst eA
      obtain ⟨x0, x1, x2, x3, x4, x5⟩ := x
      dsimp only at c0_ c1_ c2_ c3_ c4_ c5_
      simp only [entV] at H23
      have H23 := Aside0.mk H23
      obtain ⟨L, hL⟩ : ∃ L, L = writtenS ⟨x0, x1, x2, x3, x4, x5⟩ := ⟨_, rfl⟩
      rw [← hL] at H23 hwl
      have HLL := Aside0.mk hL
      have hkl := HL.out k
      clear hL
      go_wp2_with (first | (go_at_call 23; refine (H23.out _ ((HT.out.below hA.out.below).alloc _)).mono ?_; rintro e w5 ⟨v5, rfl, hv5, hb5⟩; have hbn := right_below hb5; have hvn := hA.out.bin.below hbn) | ((with_reducible refine gate_builtin (b := .append) (xs := #[.tmp 16, .tmp 18]) rfl ?_); at_builtin; refine wpList_append_bin rfl (.tmp 16) (.tmp 18) rfl w.heap.size u4 v5 (bodyS (xs.take k)) L rfl rfl hvn hv5.reads (by omega) (Nat.le_trans hA.out.below.size hbn.size) ?_; intro v7 w7 hv7 hg7 hat7))
      go_roundw
      case rel => exact ⟨k + 1, rfl, ⟨⟨hk, below_grown' (below_then hA.out.below hA.out.below.size hbn) hvn hg7, by rw [bodyS_take xs k hk, HX.out, ← HLL.out]; exact hv7⟩⟩⟩
      case measure => simp [intOf]; omega
    · have HE : Aside0 (xs.take k = xs) := ⟨List.take_of_length_le (by omega)⟩
      have hkl := HL.out k
      go_wp2_with (first | ((with_reducible refine gate_builtin (b := .append) (xs := #[.tmp 21, .const (.int .i64 1024)]) rfl ?_); at_builtin; refine wpList_append_zeros_bin rfl (.tmp 21) (.const (.int .i64 1024)) rfl w.heap.size u4 (bodyS (xs.take k)) 1024 rfl rfl hA.out.bin (by omega) hA.out.below.size ?_; intro v7 w7 hv7 hg7 hat7))
      go_ret2
      exact ⟨v7, rfl, by rw [HE.out] at hv7; exact hv7, below_grown' hA.out.below hA.out.bin hg7⟩
end Go.Proofs.YtkmcbpkciakmeaaGreatDoor.PA

/- tarfmt.empty: of a block of zeros, and of one whose first byte is none; nothing turns but the orders drawn. -/
set_option linter.unusedVariables false
set_option linter.unusedSimpArgs false
namespace Go.Proofs.YtkmcbpkciakmeaaGreatDoor.PA
open Go.RowKit Go.Proofs.YtkmcbpkciakmeaaGreatDoorW.PrintWords Go.Proofs.YtkmcbpkciakmeaaGreatDoorW.PrintLast Go.Proofs.YtkmcbpkciakmeaaGreatDoorW.PrintMore

/-- Cells that hold the bytes l. -/
def CellsAt (w : World) (ad : Addr) (l : Bytes) : Prop := ∀ j, (h : j < l.length) → w.cell? (ad.add j) = some (.int .u8 (l[j].toNat : Int))
theorem RB.cellsAt {w : World} {A : Option Addr} {n c : Nat} {l : Bytes} (h : RB w (.slice A n c) l) (hl : 0 < l.length) : n = l.length ∧ n ≤ c ∧ ∃ ad, A = some ad ∧ CellsAt w ad l := by
  obtain ⟨A', c', hv, h1, h2, h3⟩ := h
  injection hv with e1 e2 e3
  subst e1 e2 e3
  obtain ⟨ad, hA, hc⟩ := h3 hl
  exact ⟨rfl, h1, ad, hA, fun j hj => hc j _ (byteCells_get l j hj)⟩
theorem CellsAt.below {w w' : World} {ad : Addr} {l : Bytes} (h : CellsAt w ad l) (hb : Below w.heap.size w w') : CellsAt w' ad l := fun j hj => pw_cell_below hb (h j hj)

set_option maxHeartbeats 1000000 in
set_option maxRecDepth 100000 in
theorem trimR_calls (ad : Addr) (c : Nat) (l : Bytes) (w : World) (hl : l.length ≤ 512) (hlc : l.length ≤ c) (hc : CellsAt w ad l) :
    Calls Tryz.prog 84 #[.slice (some ad) l.length c, .int .u8 0] w fun e w' => ∃ k, e = .returned (.slice (some ad) k c) ∧ k ≤ l.length ∧ (∀ j, k ≤ j → (h : j < l.length) → l[j] = 0) ∧ (0 < k → (h : k - 1 < l.length) → l[k - 1] ≠ 0) ∧ w' = w := by
  have HC := Aside0.mk hc
  clear hc
  go_enter Tryz.func84, Tryz.ntmps84
  go_wp2
  go_loopw [0] (fun v0 wr => ∃ k : Nat, v0 = .slice (some ad) k c ∧ k ≤ l.length ∧ Aside0 (∀ j, k ≤ j → (h : j < l.length) → l[j] = 0) ∧ wr = w) (fun v0 _ => match v0 with | .slice _ n _ => n | _ => 0)
  case atStart => exact ⟨l.length, rfl, Nat.le_refl _, ⟨fun j h1 h2 => by omega⟩, rfl⟩
  case round =>
    obtain ⟨k, rfl, hk, hA, rfl⟩ := hrel
    by_cases h0 : 0 < k
    · obtain ⟨j, hj⟩ : ∃ j, k = j + 1 := ⟨k - 1, by omega⟩
      have hji : (k : Int) - 1 = (j : Int) := by omega
      have hjl : j < l.length := by omega
      have hcell := HC.out j hjl
      have hk0 : (0 : Int) < (k : Int) := by omega
      have HJ := Aside0.mk hj
      clear hj
      by_cases hz : l[j] = 0
      · have hze : (l[j].toNat : Int) = 0 := by rw [hz]; rfl
        rw [hze] at hcell
        have HN : Aside0 (∀ i, j ≤ i → (h : i < l.length) → l[i] = 0) := ⟨fun i h1 h2 => by
          rcases Nat.eq_or_lt_of_le h1 with rfl | h3
          · exact hz
          · exact hA.out i (by have := HJ.out; omega) h2⟩
        clear hz hze
        go_wp2
        go_roundw
        case rel => exact ⟨j, rfl, by omega, HN, trivial⟩
        case measure => have := HJ.out; simp; omega
      · have hze : ((l[j].toNat : Int) == 0) = false := by
          rw [beq_eq_false_iff_ne]
          intro e
          exact hz (UInt8.toNat_inj.1 (by have : l[j].toNat = 0 := by omega
                                          rw [this]; rfl))
        have HZ : Aside0 (∀ (h : k - 1 < l.length), l[k - 1] ≠ 0) := ⟨fun h => by
          have e : k - 1 = j := by have := HJ.out; omega
          simp only [e]; exact hz⟩
        clear hz
        go_wp2
        go_ret
        exact ⟨k, rfl, hk, hA.out, fun _ => HZ.out, rfl⟩
    · obtain rfl : k = 0 := by omega
      go_wp2
      go_ret
      exact ⟨0, rfl, by omega, hA.out, fun h => absurd h (Nat.lt_irrefl 0), rfl⟩
set_option maxHeartbeats 1000000 in
set_option maxRecDepth 100000 in
theorem trimL_nil (ad : Addr) (c : Nat) (w : World) :
    Calls Tryz.prog 83 #[.slice (some ad) 0 c, .int .u8 0] w fun e w' => e = .returned (.slice none 0 0) ∧ w' = w := by
  go_enter Tryz.func83, Tryz.ntmps83
  go_wp2
  go_loopw [0] (fun v0 wr => v0 = .slice (some ad) 0 c ∧ wr = w) (fun v0 _ => 0)
  case atStart => exact ⟨rfl, rfl⟩
  case round =>
    obtain ⟨rfl, rfl⟩ := hrel
    go_wp2
    go_ret
    exact ⟨rfl, rfl⟩
set_option maxHeartbeats 1000000 in
set_option maxRecDepth 100000 in
theorem trimL_here (ad : Addr) (k c : Nat) (b : Int) (w : World) (hk : 0 < k) (hkl : k ≤ 512) (hc : w.cell? ad = some (.int .u8 b)) (hb : b ≠ 0) :
    Calls Tryz.prog 83 #[.slice (some ad) k c, .int .u8 0] w fun e w' => e = .returned (.slice (some ad) k c) ∧ w' = w := by
  have hk0 : (0 : Int) < (k : Int) := by omega
  have hke : ((k : Int) == 0) = false := by rw [beq_eq_false_iff_ne]; omega
  have hbe : (b == 0) = false := by rw [beq_eq_false_iff_ne]; exact hb
  clear hb
  go_enter Tryz.func83, Tryz.ntmps83
  go_wp2
  go_loopw [0] (fun v0 wr => v0 = .slice (some ad) k c ∧ wr = w) (fun v0 _ => 0)
  case atStart => exact ⟨rfl, rfl⟩
  case round =>
    obtain ⟨rfl, rfl⟩ := hrel
    go_wp2
    go_ret
    exact ⟨rfl, rfl⟩
set_option maxHeartbeats 1000000 in
set_option maxRecDepth 100000 in
theorem trim_core (ad : Addr) (n c k : Nat) (R : Value) (w : World) (hn : 0 < n) (hnl : n ≤ 512)
    (h1 : ∀ W, Below w.heap.size w W → Calls Tryz.prog 84 #[.slice (some ad) n c, .int .u8 0] W fun e w' => e = .returned (.slice (some ad) k c) ∧ w' = W)
    (h2 : ∀ W, Below w.heap.size w W → Calls Tryz.prog 83 #[.slice (some ad) k c, .int .u8 0] W fun e w' => e = .returned R ∧ w' = W) :
    Calls Tryz.prog 53 #[.slice (some ad) n c, .string ⟨#[0]⟩] w fun e w' => e = .returned R ∧ Below w.heap.size w w' := by
  have H1 := Aside0.mk h1
  have H2 := Aside0.mk h2
  have hne : ((n : Int) == 0) = false := by rw [beq_eq_false_iff_ne]; omega
  clear h1 h2
  go_enter Tryz.func53, Tryz.ntmps53
  go_wp2
  go_region_with (first | (go_at_call 84; refine (H1.out _ (below_drew (Below.refl _ _))).mono ?_; rintro e w1 ⟨rfl, rfl⟩) | (go_at_call 83; refine (H2.out _ (below_drew (Below.refl _ _))).mono ?_; rintro e w1 ⟨rfl, rfl⟩))
  all_goals
    go_wp2
    go_ret
    exact ⟨rfl, below_drew (Below.refl _ _)⟩
theorem add0 (ad : Addr) : ad.add 0 = ad := by
  unfold Addr.add
  split
  · rfl
  · rename_i h; exact absurd rfl h
structure IsEnd (l : Bytes) (k : Nat) : Prop where
  le : k ≤ l.length
  zero : ∀ j, k ≤ j → (h : j < l.length) → l[j] = 0
  last : 0 < k → (h : k - 1 < l.length) → l[k - 1] ≠ 0
theorem IsEnd.one {l : Bytes} {a b : Nat} (ha : IsEnd l a) (hb : IsEnd l b) : a = b := by
  have := ha.le; have := hb.le
  rcases Nat.lt_trichotomy a b with h | h | h
  · exact absurd (ha.zero (b - 1) (by omega) (by omega)) (hb.last (by omega) (by omega))
  · exact h
  · exact absurd (hb.zero (a - 1) (by omega) (by omega)) (ha.last (by omega) (by omega))
theorem end_exists (l : Bytes) : ∀ n, n ≤ l.length → (∀ j, n ≤ j → (h : j < l.length) → l[j] = 0) → ∃ k, IsEnd l k
  | 0, _, hz => ⟨0, by omega, hz, fun h => absurd h (Nat.lt_irrefl 0)⟩
  | n + 1, hn, hz => by
    by_cases h : l[n] = 0
    · exact end_exists l n (by omega) fun j h1 h2 => by
        rcases Nat.eq_or_lt_of_le h1 with rfl | h3
        · exact h
        · exact hz j h3 h2
    · exact ⟨n + 1, hn, hz, fun _ _ => h⟩

set_option maxHeartbeats 1000000 in
set_option maxRecDepth 100000 in
theorem empty_core (ad : Addr) (n c : Nat) (A : Option Addr) (k c' : Nat) (w : World)
    (h1 : ∀ W, Below w.heap.size w W → Calls Tryz.prog 53 #[.slice (some ad) n c, .string ⟨#[0]⟩] W fun e w' => e = .returned (.slice A k c') ∧ Below W.heap.size W w') :
    Calls Tryz.prog 28 #[.slice (some ad) n c] w fun e w' => e = .returned (.bool ((k : Int) == 0)) ∧ Below w.heap.size w w' := by
  have H1 := Aside0.mk h1
  clear h1
  go_enter Tryz.func28, Tryz.ntmps28
  go_wp2_with (first | (go_at_call 53; refine (H1.out _ (Below.refl _ _)).mono ?_; rintro e w1 ⟨rfl, hb⟩))
  go_ret
  exact ⟨rfl, hb⟩
/-- Of zeros. -/
theorem empty_zero (v : Value) (l : Bytes) (w : World) (h : RB w v l) (hl : 0 < l.length) (hl2 : l.length ≤ 512) (hz : ∀ b ∈ l, b = 0) :
    Calls Tryz.prog 28 #[v] w fun e w' => e = .returned (.bool true) ∧ Below w.heap.size w w' := by
  obtain ⟨A, c, rfl, _⟩ := id h
  obtain ⟨-, hlc, ad, rfl, hc⟩ := h.cellsAt hl
  have h84 : ∀ W, Below w.heap.size w W → Calls Tryz.prog 84 #[.slice (some ad) l.length c, .int .u8 0] W fun e w' => e = .returned (.slice (some ad) 0 c) ∧ w' = W := fun W hW => by
    refine (trimR_calls ad c l W hl2 hlc (hc.below hW)).mono ?_
    rintro e w' ⟨k, rfl, hk, h2, h3, rfl⟩
    rcases Nat.eq_zero_or_pos k with rfl | hp
    · exact ⟨rfl, rfl⟩
    · exact absurd (hz _ (List.getElem_mem (by omega))) (h3 hp (by omega))
  refine (empty_core ad l.length c none 0 0 w fun W hW => trim_core ad l.length c 0 (.slice none 0 0) W hl hl2 (fun W2 hW2 => h84 W2 (hW.trans (hW2.mono hW.size))) (fun W2 _ => trimL_nil ad c W2)).mono ?_
  rintro e w' ⟨rfl, hb⟩
  exact ⟨rfl, hb⟩
/-- Of bytes whose first is none. -/
theorem empty_not (v : Value) (b : UInt8) (l : Bytes) (w : World) (h : RB w v (b :: l)) (hl2 : l.length + 1 ≤ 512) (hz : b ≠ 0) :
    Calls Tryz.prog 28 #[v] w fun e w' => e = .returned (.bool false) ∧ Below w.heap.size w w' := by
  obtain ⟨A, c, rfl, _⟩ := id h
  obtain ⟨-, hlc, ad, rfl, hc⟩ := h.cellsAt (by simp)
  have hc0 : ∀ W, Below w.heap.size w W → W.cell? ad = some (.int .u8 (b.toNat : Int)) := fun W hW => by
    have := hc.below hW 0 (by simp)
    rw [add0] at this
    exact this
  have hbn : (b.toNat : Int) ≠ 0 := fun e => hz (UInt8.toNat_inj.1 (by have : b.toNat = 0 := by omega
                                                                       rw [this]; rfl))
  have h84 : ∃ k : Nat, 0 < k ∧ k ≤ 512 ∧ ∀ W, Below w.heap.size w W → Calls Tryz.prog 84 #[.slice (some ad) (b :: l).length c, .int .u8 0] W fun e w' => e = .returned (.slice (some ad) k c) ∧ w' = W := by
    obtain ⟨k, hk⟩ := end_exists (b :: l) (b :: l).length (Nat.le_refl _) (fun j h1 h2 => by omega)
    refine ⟨k, ?_, by have := hk.le; simp at this; omega, fun W hW => ?_⟩
    · rcases Nat.eq_zero_or_pos k with rfl | hp
      · exact absurd (hk.zero 0 (by omega) (by simp)) hz
      · exact hp
    · refine (trimR_calls ad c (b :: l) W (by simpa using hl2) hlc (hc.below hW)).mono ?_
      rintro e w' ⟨k2, rfl, h1, h2, h3, rfl⟩
      exact ⟨by rw [IsEnd.one hk ⟨h1, h2, h3⟩], rfl⟩
  obtain ⟨k, hk0, hk1, h84⟩ := h84
  refine (empty_core ad (b :: l).length c (some ad) k c w fun W hW => trim_core ad (b :: l).length c k (.slice (some ad) k c) W (by simp) (by simpa using hl2) (fun W2 hW2 => h84 W2 (hW.trans (hW2.mono hW.size))) (fun W2 hW2 => trimL_here ad k c b.toNat W2 hk0 hk1 (hc0 W2 (hW.trans (hW2.mono hW.size))) hbn)).mono ?_
  rintro e w' ⟨rfl, hb⟩
  refine ⟨?_, hb⟩
  rw [show ((k : Int) == 0) = false by rw [beq_eq_false_iff_ne]; omega]
end Go.Proofs.YtkmcbpkciakmeaaGreatDoor.PA

/- tarfmt.name: a text up to a byte 0; nothing turns. -/
set_option linter.unusedVariables false
set_option linter.unusedSimpArgs false
namespace Go.Proofs.YtkmcbpkciakmeaaGreatDoor.PA
open Go.RowKit Go.Proofs.YtkmcbpkciakmeaaGreatDoorW.PrintWords Go.Proofs.YtkmcbpkciakmeaaGreatDoorW.PrintLast Go.Proofs.YtkmcbpkciakmeaaGreatDoorW.PrintMore

theorem bytesOf_ints (l : Bytes) : Lib.bytesOf (ints l) = l := by
  unfold Lib.bytesOf ints
  rw [List.map_map]
  exact (List.map_congr_left (fun b _ => by simp)).trans (List.map_id l)
theorem RB.take {w : World} {A : Option Addr} {n c : Nat} {l : Bytes} (h : RB w (.slice A n c) l) (k : Nat) (hk : k ≤ l.length) : RB w (.slice A k c) (l.take k) := by
  obtain ⟨A', c', hv, h1, h2, h3⟩ := h
  injection hv with e1 e2 e3
  subst e1 e2 e3
  have hl : (l.take k).length = k := by rw [List.length_take]; omega
  refine ⟨A, c, by rw [hl], by omega, by omega, fun hp => ?_⟩
  obtain ⟨ad, hA, hc⟩ := h3 (by omega)
  refine ⟨ad, hA, fun j u hu => hc j u ?_⟩
  rw [← byteCells_take'] at hu
  rw [List.getElem?_take] at hu
  split at hu
  · exact hu
  · cases hu
where byteCells_take' {l : Bytes} {n : Nat} : (Lib.byteCells l).take n = Lib.byteCells (l.take n) := by simp [Lib.byteCells, List.map_take]
theorem indexByte_range (l : Bytes) (c : UInt8) : -1 ≤ Lib.indexByte l c ∧ Lib.indexByte l c ≤ l.length := by
  induction l with
  | nil => simp [Lib.indexByte]
  | cons b l ih =>
    rw [Lib.indexByte, List.length_cons]
    repeat' split
    all_goals omega
def nameS (l : Bytes) : Bytes := if Lib.indexByte l 0 < 0 then l else l.take (Lib.indexByte l 0).toNat

set_option maxHeartbeats 1000000 in
set_option maxRecDepth 100000 in
theorem name_calls (v : Value) (l : Bytes) (w : World) (h : RB w v l) (hl : 0 < l.length) (hl2 : l.length ≤ 1073741824) :
    Calls Tryz.prog 57 #[v] w fun e w' => e = .returned (.string (str (nameS l))) ∧ w' = w := by
  obtain ⟨A, c, rfl, hlc, _⟩ := id h
  obtain ⟨-, -, ad, rfl, hcell⟩ := h.cellsAt hl
  have H91 : Calls Tryz.prog 91 #[.slice (some ad) l.length c, .int .u8 0] w fun e w' => e = .returned (.int .i64 (Lib.indexByte l 0)) ∧ w' = w := by
    have := Tryz.bytes_IndexByte_at ad l.length c (ints l) 0 w (ints_length l) (fun i hi => by
      rw [hcell i hi]; simp [ints, List.getD_eq_getElem?_getD, List.getElem?_eq_getElem hi])
    rw [bytesOf_ints] at this
    exact this
  have hr := indexByte_range l 0
  by_cases hi : Lib.indexByte l 0 < 0
  · have hi1 : Lib.indexByte l 0 = -1 := by omega
    have hcv : (convert 25 9 (.slice (some ad) l.length c)).run Tryz.prog w = .ok (.string (str l)) w := conv_string h
    have HN : Aside0 (nameS l = l) := ⟨if_pos hi⟩
    rw [hi1] at H91
    have H91 := Aside0.mk H91
    clear hr hi hi1 h hcell
    go_enter Tryz.func57, Tryz.ntmps57
    go_wp2_with (first | (go_at_call 91; refine (H91.out).mono ?_; rintro e w1 ⟨rfl, rfl⟩))
    go_ret
    exact ⟨by rw [HN.out]; rfl, rfl⟩
  · obtain ⟨k, hk⟩ : ∃ k : Nat, Lib.indexByte l 0 = k := ⟨(Lib.indexByte l 0).toNat, by omega⟩
    have hkl : k ≤ l.length := by omega
    have hcv : (convert 25 9 (.slice (some ad) k c)).run Tryz.prog w = .ok (.string (str (l.take k))) w := conv_string (h.take k hkl)
    have HN : Aside0 (nameS l = l.take k) := ⟨by unfold nameS; rw [if_neg hi, hk]; rfl⟩
    rw [hk] at H91
    have H91 := Aside0.mk H91
    clear hr hi hk h hcell
    go_enter Tryz.func57, Tryz.ntmps57
    go_wp2_with (first | (go_at_call 91; refine (H91.out).mono ?_; rintro e w1 ⟨rfl, rfl⟩))
    go_ret
    exact ⟨by rw [HN.out]; rfl, rfl⟩
end Go.Proofs.YtkmcbpkciakmeaaGreatDoor.PA

/- What stands in a header that was written: plain laws of its pieces. -/
set_option linter.unusedVariables false
set_option linter.unusedSimpArgs false
namespace Go.Proofs.YtkmcbpkciakmeaaGreatDoor.PA
open Go.RowKit Go.Proofs.YtkmcbpkciakmeaaGreatDoorW.PrintWords Go.Proofs.YtkmcbpkciakmeaaGreatDoorW.PrintLast Go.Proofs.YtkmcbpkciakmeaaGreatDoorW.PrintMore

def seg (l : Bytes) (a b : Nat) : Bytes := (l.take b).drop a
theorem seg_get (l : Bytes) (a b j : Nat) : (seg l a b)[j]? = if a + j < b then l[a + j]? else none := by
  unfold seg
  rw [List.getElem?_drop, List.getElem?_take]
theorem lay_get (l : Bytes) (off : Nat) (m : Bytes) (h : off + m.length ≤ l.length) (j : Nat) : (lay l off m)[j]? = if j < off then l[j]? else if j < off + m.length then m[j - off]? else l[j]? := by
  unfold lay
  by_cases h1 : j < off
  · rw [if_pos h1, List.getElem?_append_left (by rw [List.length_take]; omega), List.getElem?_take, if_pos h1]
  · have ht : (l.take off).length = off := by rw [List.length_take]; omega
    rw [if_neg h1, List.getElem?_append_right (by omega), ht]
    by_cases h2 : j < off + m.length
    · rw [if_pos h2, List.getElem?_append_left (by omega)]
    · rw [if_neg h2, List.getElem?_append_right (by omega), List.getElem?_drop]
      congr 1; omega
theorem seg_out {l m : Bytes} {off a b : Nat} (h : off + m.length ≤ l.length) (hab : b ≤ off ∨ off + m.length ≤ a) : seg (lay l off m) a b = seg l a b := by
  apply List.ext_getElem?
  intro j
  rw [seg_get, seg_get]
  split
  · rw [lay_get l off m h]
    repeat' split
    all_goals first | rfl | omega
  · rfl
theorem seg_at {l m : Bytes} {off b : Nat} (h : off + m.length ≤ l.length) (hb : b = off + m.length) : seg (lay l off m) off b = m := by
  subst hb
  apply List.ext_getElem?
  intro j
  rw [seg_get]
  split
  · rename_i hj
    rw [lay_get l off m h, if_neg (by omega), if_pos hj]
    congr 1; omega
  · rename_i hj
    rw [List.getElem?_eq_none (by omega)]
theorem seg_len {l : Bytes} {a b : Nat} (hb : b ≤ l.length) : (seg l a b).length = b - a := by
  unfold seg
  rw [List.length_drop, List.length_take]; omega
theorem seg_zeros (n a b : Nat) (hb : b ≤ n) : seg (zeros n) a b = zeros (b - a) := by
  unfold seg zeros
  rw [List.take_replicate, List.drop_replicate]
  congr 1; omega
theorem seg_lay_in {l m : Bytes} {off a b : Nat} (h : off + m.length ≤ l.length) (ha : a = off) (hb : off + m.length ≤ b) : seg (lay l off m) a b = m ++ seg l (off + m.length) b := by
  subst ha
  apply List.ext_getElem?
  intro j
  rw [seg_get]
  by_cases h1 : j < m.length
  · rw [List.getElem?_append_left h1, if_pos (by omega), lay_get l a m h, if_neg (by omega), if_pos (by omega)]
    congr 1; omega
  · rw [List.getElem?_append_right (by omega), seg_get]
    by_cases h2 : a + j < b
    · rw [if_pos h2, if_pos (by omega), lay_get l a m h, if_neg (by omega), if_neg (by omega)]
      congr 1; omega
    · rw [if_neg h2, if_neg (by omega)]

theorem idx0_none : ∀ t : Bytes, (∀ b ∈ t, b ≠ 0) → Lib.indexByte t 0 = -1
  | [], _ => rfl
  | b :: t, h => by
    have h1 := idx0_none t fun c hc => h c (List.mem_cons_of_mem _ hc)
    have hb : (b == 0) = false := by rw [beq_eq_false_iff_ne]; exact h b (List.mem_cons_self ..)
    rw [Lib.indexByte, h1, hb]
    rfl
theorem idx0_at (r : Bytes) : ∀ t : Bytes, (∀ b ∈ t, b ≠ 0) → Lib.indexByte (t ++ 0 :: r) 0 = t.length
  | [], _ => rfl
  | b :: t, h => by
    have h1 := idx0_at r t fun c hc => h c (List.mem_cons_of_mem _ hc)
    have hb : (b == 0) = false := by rw [beq_eq_false_iff_ne]; exact h b (List.mem_cons_self ..)
    rw [List.cons_append, Lib.indexByte, h1, hb]
    have : (((t.length : Nat) : Int) == -1) = false := by rw [beq_eq_false_iff_ne]; omega
    rw [this]
    simp
/-- A text without a byte 0, with zeros behind it. -/
theorem nameS_pad {t : Bytes} (ht : ∀ b ∈ t, b ≠ 0) (n : Nat) : nameS (t ++ zeros n) = t := by
  unfold nameS
  rcases n with _ | n
  · have e : t ++ zeros 0 = t := by simp [zeros]
    rw [e, idx0_none t ht]
    rfl
  · have e : t ++ zeros (n + 1) = t ++ 0 :: zeros n := by simp [zeros, List.replicate_succ]
    rw [e, idx0_at _ t ht, if_neg (by omega)]
    simp

/-- What parsed reads. -/
structure HdGood (h : Hd) : Prop where
  fits : h.fits
  name : ∀ b ∈ h.name.data.toList, b ≠ 0
  link : ∀ b ∈ h.link.data.toList, b ≠ 0
section
variable {h : Hd} (hf : h.fits)
include hf
theorem hd_o8 : (octField h.mode 8).length = 8 := octField_length _ _ hf.1
theorem hd_o12 : (octField h.size 12).length = 12 := octField_length _ _ hf.2.1
theorem hd_t12 : (octField h.time 12).length = 12 := octField_length _ _ hf.2.2.1
def H0 (h : Hd) : Bytes := head0 h.name.data.toList h.link.data.toList
def H1 (h : Hd) : Bytes := lay (H0 h) 100 (octField h.mode 8)
def H2 (h : Hd) : Bytes := lay (H1 h) 124 (octField h.size 12)
def H3 (h : Hd) : Bytes := lay (H2 h) 136 (octField h.time 12)
def H4 (h : Hd) : Bytes := lay (H3 h) 156 [h.kind]
def H5 (h : Hd) : Bytes := lay (H4 h) 257 ustarB
omit hf in
theorem hdS_eq (h : Hd) : hdS h = lay (H5 h) 148 (octField (sumS (H5 h)) 8) := rfl
omit hf in
theorem H0_len (h : Hd) : (H0 h).length = 512 := head0_len _ _
theorem H1_len : (H1 h).length = 512 := by have := hd_o8 hf; unfold H1; rw [lay_length _ _ _ (by rw [H0_len]; omega), H0_len]
theorem H2_len : (H2 h).length = 512 := by have := hd_o12 hf; have h1 := H1_len hf; unfold H2; rw [lay_length _ _ _ (by omega), h1]
theorem H3_len : (H3 h).length = 512 := by have := hd_t12 hf; have h1 := H2_len hf; unfold H3; rw [lay_length _ _ _ (by omega), h1]
theorem H4_len : (H4 h).length = 512 := by have h1 := H3_len hf; unfold H4; rw [lay_length _ _ _ (by simp; omega), h1]
theorem H5_len : (H5 h).length = 512 := by have h1 := H4_len hf; unfold H5; rw [lay_length _ _ _ (by rw [h1]; decide), h1]
theorem sum_small : sumS (H5 h) < 2097152 := by
  have := sumFrom_le (H5 h) 0
  rw [H5_len hf] at this
  show sumFrom _ 0 < _; omega
theorem hd_s8 : (octField (sumS (H5 h)) 8).length = 8 := octField_length _ _ (octL_fit8 (sum_small hf))
theorem hd_seg (a b : Nat) (hab : b ≤ 148 ∨ 156 ≤ a) : seg (hdS h) a b = seg (H5 h) a b := by
  have := hd_s8 hf
  rw [hdS_eq]
  exact seg_out (by rw [H5_len hf]; omega) (by rcases hab with h | h; exact .inl h; exact .inr (by omega))
theorem h5_seg (a b : Nat) (hab : b ≤ 257 ∨ 265 ≤ a) : seg (H5 h) a b = seg (H4 h) a b :=
  seg_out (by rw [H4_len hf]; decide) (by rcases hab with h | h; exact .inl h; exact .inr h)
theorem h4_seg (a b : Nat) (hab : b ≤ 156 ∨ 157 ≤ a) : seg (H4 h) a b = seg (H3 h) a b :=
  seg_out (by rw [H3_len hf]; simp) (by rcases hab with h | h; exact .inl h; exact .inr h)
theorem h3_seg (a b : Nat) (hab : b ≤ 136 ∨ 148 ≤ a) : seg (H3 h) a b = seg (H2 h) a b :=
  seg_out (by rw [H2_len hf, hd_t12 hf]; decide) (by rw [hd_t12 hf]; rcases hab with h | h; exact .inl h; exact .inr h)
theorem h2_seg (a b : Nat) (hab : b ≤ 124 ∨ 136 ≤ a) : seg (H2 h) a b = seg (H1 h) a b :=
  seg_out (by rw [H1_len hf, hd_o12 hf]; decide) (by rw [hd_o12 hf]; rcases hab with h | h; exact .inl h; exact .inr h)
theorem h1_seg (a b : Nat) (hab : b ≤ 100 ∨ 108 ≤ a) : seg (H1 h) a b = seg (H0 h) a b :=
  seg_out (by rw [H0_len, hd_o8 hf]; decide) (by rw [hd_o8 hf]; rcases hab with h | h; exact .inl h; exact .inr h)
theorem hd_mode : seg (hdS h) 100 108 = octField h.mode 8 := by
  rw [hd_seg hf _ _ (by omega), h5_seg hf _ _ (by omega), h4_seg hf _ _ (by omega), h3_seg hf _ _ (by omega), h2_seg hf _ _ (by omega)]
  exact seg_at (by rw [H0_len, hd_o8 hf]; decide) (by rw [hd_o8 hf])
theorem hd_size : seg (hdS h) 124 136 = octField h.size 12 := by
  rw [hd_seg hf _ _ (by omega), h5_seg hf _ _ (by omega), h4_seg hf _ _ (by omega), h3_seg hf _ _ (by omega)]
  exact seg_at (by rw [H1_len hf, hd_o12 hf]; decide) (by rw [hd_o12 hf])
theorem hd_time : seg (hdS h) 136 148 = octField h.time 12 := by
  rw [hd_seg hf _ _ (by omega), h5_seg hf _ _ (by omega), h4_seg hf _ _ (by omega)]
  exact seg_at (by rw [H2_len hf, hd_t12 hf]; decide) (by rw [hd_t12 hf])
theorem hd_sum : seg (hdS h) 148 156 = octField (sumS (H5 h)) 8 := by
  rw [hdS_eq]
  exact seg_at (by rw [H5_len hf, hd_s8 hf]; decide) (by rw [hd_s8 hf])
theorem hd_mark : seg (hdS h) 257 265 = ustarB := by
  rw [hd_seg hf _ _ (by omega)]
  exact seg_at (by rw [H4_len hf]; decide) (by decide)
theorem hd_kind : (hdS h)[156]? = some h.kind := by
  have e := hd_seg hf 156 157 (by omega)
  rw [h5_seg hf _ _ (by omega)] at e
  have e2 : seg (H4 h) 156 157 = [h.kind] := seg_at (by rw [H3_len hf]; simp) (by simp)
  rw [e2] at e
  have e3 : (seg (hdS h) 156 157)[0]? = ([h.kind] : Bytes)[0]? := by rw [e]
  rw [seg_get] at e3
  simpa using e3
omit hf in
theorem h0_name : seg (H0 h) 0 100 = h.name.data.toList.take 100 ++ zeros (100 - h.name.data.toList.length) := by
  have l1 : (h.name.data.toList.take 100).length = min 100 h.name.data.toList.length := List.length_take
  unfold H0 head0
  rw [seg_out (by rw [lay_length _ _ _ (by rw [zeros_length]; omega), zeros_length, List.length_take]; omega) (.inl (by omega)), seg_lay_in (by rw [zeros_length]; omega) rfl (by omega), seg_zeros _ _ _ (by omega)]
  congr 2; omega
omit hf in
theorem h0_link : seg (H0 h) 157 257 = h.link.data.toList.take 100 ++ zeros (100 - h.link.data.toList.length) := by
  have l1 : (h.name.data.toList.take 100).length = min 100 h.name.data.toList.length := List.length_take
  have l2 : (h.link.data.toList.take 100).length = min 100 h.link.data.toList.length := List.length_take
  have l3 : (lay (zeros 512) 0 (h.name.data.toList.take 100)).length = 512 := by rw [lay_length _ _ _ (by rw [zeros_length]; omega), zeros_length]
  unfold H0 head0
  rw [seg_lay_in (by omega) rfl (by omega), seg_out (by rw [zeros_length]; omega) (.inr (by omega)), seg_zeros _ _ _ (by omega)]
  congr 2; omega
omit hf in
theorem h0_prefix : seg (H0 h) 345 500 = zeros 155 := by
  have l1 : (h.name.data.toList.take 100).length = min 100 h.name.data.toList.length := List.length_take
  have l2 : (h.link.data.toList.take 100).length = min 100 h.link.data.toList.length := List.length_take
  have l3 : (lay (zeros 512) 0 (h.name.data.toList.take 100)).length = 512 := by rw [lay_length _ _ _ (by rw [zeros_length]; omega), zeros_length]
  unfold H0 head0
  rw [seg_out (by omega) (.inr (by omega)), seg_out (by rw [zeros_length]; omega) (.inr (by omega)), seg_zeros _ _ _ (by omega)]
theorem hd_low (a b : Nat) (hab : b ≤ 100) : seg (hdS h) a b = seg (H0 h) a b := by
  rw [hd_seg hf _ _ (by omega), h5_seg hf _ _ (by omega), h4_seg hf _ _ (by omega), h3_seg hf _ _ (by omega), h2_seg hf _ _ (by omega), h1_seg hf _ _ (by omega)]
theorem hd_high (a b : Nat) (ha : 157 ≤ a) (hb : b ≤ 257 ∨ 265 ≤ a) : seg (hdS h) a b = seg (H0 h) a b := by
  rw [hd_seg hf _ _ (by omega), h5_seg hf _ _ hb, h4_seg hf _ _ (by omega), h3_seg hf _ _ (by omega), h2_seg hf _ _ (by omega), h1_seg hf _ _ (by omega)]
end
/-- The sum reads the field itself as blanks. -/
theorem sumFrom_congr : ∀ (l m : Bytes) (i : Nat), l.length = m.length → (∀ j, (i + j < 148 ∨ 156 ≤ i + j) → l[j]? = m[j]?) → sumFrom l i = sumFrom m i
  | [], [], _, _, _ => rfl
  | [], _ :: _, _, h, _ => by simp at h
  | _ :: _, [], _, h, _ => by simp at h
  | a :: l, b :: m, i, hl, h => by
    have ih := sumFrom_congr l m (i + 1) (by simpa using hl) (fun j hj => by
      have := h (j + 1) (by omega)
      simpa using this)
    rw [sumFrom, sumFrom, ih]
    congr 1
    split
    · rfl
    · rename_i hn
      have := h 0 (by omega)
      have : a = b := by simpa using this
      rw [this]
theorem hd_sumS {h : Hd} (hf : h.fits) : sumS (hdS h) = sumS (H5 h) := by
  have h8 := hd_s8 hf
  have h5 := H5_len hf
  have h512 : (hdS h).length = 512 := hdS_len h hf
  apply sumFrom_congr
  · omega
  · intro j hj
    rw [hdS_eq, lay_get _ _ _ (by omega)]
    repeat' split
    all_goals first | rfl | omega
/-- The name that is read. -/
theorem hd_nameS {h : Hd} (hg : HdGood h) : nameS (seg (hdS h) 0 100) = h.name.data.toList.take 100 := by
  rw [hd_low hg.fits _ _ (by omega), h0_name]
  exact nameS_pad (fun b hb => hg.name b (List.mem_of_mem_take hb)) _
theorem hd_linkS {h : Hd} (hg : HdGood h) : nameS (seg (hdS h) 157 257) = h.link.data.toList.take 100 := by
  rw [hd_high hg.fits _ _ (by omega) (by omega), h0_link]
  exact nameS_pad (fun b hb => hg.link b (List.mem_of_mem_take hb)) _
theorem hd_prefixS {h : Hd} (hf : h.fits) : nameS (seg (hdS h) 345 500) = [] := by
  rw [hd_high hf _ _ (by omega) (by omega), h0_prefix]
  exact nameS_pad (t := []) (by simp) 155
end Go.Proofs.YtkmcbpkciakmeaaGreatDoor.PA
