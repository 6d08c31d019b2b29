/- The document's answer: trees written. -/
import Derived.Test.YtkmcbpkciakmeaaGreatDoorMprintedb
import Derived.Test.YtkmcbpkciakmeaaGreatDoorMheads
import Derived.Test.YtkmcbpkciakmeaaGreatDoorMrefparse
import Derived.Test.YtkmcbpkciakmeaaGreatDoorMref
import Derived.Test.YtkmcbpkciakmeaaGreatDoorMwritten
import Derived.Test.YtkmcbpkciakmeaaGreatDoorMrefcheck
import Derived.Test.YtkmcbpkciakmeaaGreatDoorMwrite
import Derived.Deep.LoopGhost

/- The document's PutOctal and Sum, in plain Lean: they answer what the program's do. -/
set_option linter.unusedVariables false
set_option linter.unusedSimpArgs false
namespace Go.Proofs.YtkmcbpkciakmeaaGreatDoor.PA
open Go.RowKit Go.Proofs.YtkmcbpkciakmeaaGreatDoorW.PrintWords Go.Proofs.YtkmcbpkciakmeaaGreatDoorW.PrintLast Go.Proofs.YtkmcbpkciakmeaaGreatDoorW.PrintMore

/-- So many digits of a number to the base 8, the highest first; what is left of it. -/
def digL : Nat → Nat → List Int
  | 0, _ => []
  | m + 1, v => digL m (v / 8) ++ [((v % 8 : Nat) : Int)]
def rest8 : Nat → Nat → Nat
  | 0, v => v
  | m + 1, v => rest8 m (v / 8)
theorem digL_len : ∀ (m v : Nat), (digL m v).length = m
  | 0, _ => rfl
  | m + 1, v => by rw [digL, List.length_append, digL_len m]; rfl
theorem written_l0 : ∀ (m k v : Nat) (L : List Int), m ≤ L.length → L.length ≤ 1000 → v ≤ 4611686018427387904 → m < k → wainloadref03_written.l0 k (v : Int) 8 L ((m : Int) - 1) = some (digL m v ++ L.drop m, ((rest8 m v : Nat) : Int) == 0)
  | 0, k, v, L, h1, h1b, h2, h3 => by
    obtain ⟨k, rfl⟩ : ∃ k', k = k' + 1 := ⟨k - 1, by omega⟩
    rw [wainloadref03_written.l0, if_neg (by omega)]
    rfl
  | m + 1, k, v, L, h1, h1b, h2, h3 => by
    obtain ⟨k, rfl⟩ : ∃ k', k = k' + 1 := ⟨k - 1, by omega⟩
    have e1 : wrap64 (Int.tdiv (v : Int) 8) = ((v / 8 : Nat) : Int) := by
      rw [Int.tdiv_eq_ediv_of_nonneg (by omega), w_in _ (by omega)]; omega
    have e2 : Int.tmod (v : Int) 8 % 256 = ((v % 8 : Nat) : Int) := by
      rw [Int.tmod_eq_emod_of_nonneg (by omega)]; omega
    rw [wainloadref03_written.l0, show ((m + 1 : Nat) : Int) - 1 = (m : Int) by omega, if_pos (by omega), if_neg (by decide), if_pos (by omega), if_pos (by omega), e1, e2, w_in ((m : Int) - 1) (by omega), Int.toNat_natCast]
    rw [written_l0 m k (v / 8) _ (by rw [List.length_set]; omega) (by rw [List.length_set]; exact h1b) (by omega) (by omega)]
    have hd : (L.set m ((v % 8 : Nat) : Int)).drop m = ((v % 8 : Nat) : Int) :: L.drop (m + 1) := by
      rw [List.drop_eq_getElem_cons (by rw [List.length_set]; omega), List.getElem_set_self, List.drop_set_of_lt (by omega)]
    rw [hd, digL, rest8]
    simp
theorem written_f (v m k : Nat) (hv : v ≤ 4611686018427387904) (hm : m ≤ 1000) (hk : m < k) : wainloadref03_written.f k (v : Int) 8 (m : Int) = some (digL m v, ((rest8 m v : Nat) : Int) == 0) := by
  unfold wainloadref03_written.f
  rw [if_pos (by omega), if_pos (by rw [Int.toNat_natCast]; omega), Int.toNat_natCast, w_in ((m : Int) - 1) (by omega), written_l0 m k v _ (by simp) (by simp; omega) hv hk]
  simp
def up48 (x : Int) : Int := (x + 48) % 256
theorem put_l0 : ∀ (B A : List Int) (k : Nat), B.length < k → A.length + B.length ≤ 1000 → wainloadref03_PutOctal.l0 k (A ++ B) (A.length : Int) = some (A ++ B.map up48 ++ [0], true)
  | [], A, k, hk, hl => by
    obtain ⟨k, rfl⟩ : ∃ k', k = k' + 1 := ⟨k - 1, by simp at hk; omega⟩
    rw [wainloadref03_PutOctal.l0, if_neg (by simp), if_pos (by simp; simp at hl; omega)]
    simp
  | b :: B, A, k, hk, hl => by
    obtain ⟨k, rfl⟩ : ∃ k', k = k' + 1 := ⟨k - 1, by omega⟩
    simp only [List.length_cons] at hk hl
    have hr : rd (A ++ b :: B) (A.length : Int) = b := by unfold rd; rw [Int.toNat_natCast]; simp
    have ih := put_l0 B (A ++ [up48 b]) k (by omega) (by simp; omega)
    rw [List.length_append, List.length_cons, List.length_nil] at ih
    rw [wainloadref03_PutOctal.l0, if_pos (by simp; omega), if_pos (by omega), hr, Int.toNat_natCast, w_in _ (by omega)]
    have hs : (A ++ b :: B).set A.length ((b + 48) % 256) = A ++ [up48 b] ++ B := by
      rw [List.set_append_right _ _ (Nat.le_refl _)]; simp [up48]
    rw [hs, show ((A.length : Int) + 1) = ((A.length + (0 + 1) : Nat) : Int) by push_cast; omega, ih]
    simp
theorem digL_zero : ∀ m, digL m 0 = List.replicate m 0
  | 0 => rfl
  | m + 1 => by rw [digL, Nat.zero_div, digL_zero m, List.replicate_succ']; rfl
theorem rest8_zero : ∀ m, rest8 m 0 = 0
  | 0 => rfl
  | m + 1 => by rw [rest8, Nat.zero_div, rest8_zero m]
theorem dig_oct : ∀ (m v : Nat), (octL v).length ≤ m → (digL m v).map up48 = ints (List.replicate (m - (octL v).length) 48 ++ octL v) ∧ rest8 m v = 0
  | 0, v, h => by have := octL_pos v; omega
  | m + 1, v, h => by
    rcases Nat.lt_or_ge v 8 with h8 | h8
    · rw [octL_lt h8, digL, show v / 8 = 0 by omega, digL_zero, rest8, show v / 8 = 0 by omega, rest8_zero]
      refine ⟨?_, rfl⟩
      have e : up48 ((v % 8 : Nat) : Int) = (((UInt8.ofNat (48 + v)).toNat : Nat) : Int) := by
        unfold up48; rw [UInt8.toNat_ofNat', Nat.mod_eq_of_lt (by omega)]; omega
      have e0 : up48 0 = (((48 : UInt8).toNat : Nat) : Int) := rfl
      simp only [List.map_append, List.map_replicate, List.map_cons, List.map_nil, e, e0, ints, List.length_cons, List.length_nil]
      simp
    · rw [octL_ge h8, List.length_append] at h
      simp only [List.length_cons, List.length_nil] at h
      obtain ⟨i1, i2⟩ := dig_oct m (v / 8) (by omega)
      rw [octL_ge h8, digL, rest8, List.map_append, i1]
      refine ⟨?_, i2⟩
      have e : up48 ((v % 8 : Nat) : Int) = (((UInt8.ofNat (48 + v % 8)).toNat : Nat) : Int) := by
        unfold up48; rw [UInt8.toNat_ofNat', Nat.mod_eq_of_lt (show 48 + v % 8 < 2 ^ 8 by omega)]; omega
      rw [List.length_append]
      simp only [List.length_cons, List.length_nil, Nat.add_sub_add_right, List.map_cons, List.map_nil, e, ints, List.map_append]
      simp
theorem ref_putoctal_f (v n : Nat) (hv : v ≤ 4611686018427387904) (h2 : 2 ≤ n) (hn : n ≤ 64) (hl : (octL v).length < n) : wainloadref03_PutOctal.f (n + 3) (v : Int) (n : Int) = some (ints (octField v n), true) := by
  unfold wainloadref03_PutOctal.f
  rw [if_neg (by omega), if_neg (by omega), if_neg (by omega), decide_eq_false (by omega), wainloadref03_PutOctal.j0, if_neg (by decide)]
  obtain ⟨m, rfl⟩ : ∃ m, n = m + 1 := ⟨n - 1, by omega⟩
  obtain ⟨d1, d2⟩ := dig_oct m v (by omega)
  rw [w_in _ (by omega), show ((m + 1 : Nat) : Int) - 1 = (m : Int) by omega, written_f v m _ hv (by omega) (by omega), Option.bind_some, d2]
  have := put_l0 (digL m v) [] (m + 1 + 2) (by rw [digL_len]; omega) (by rw [digL_len]; simp; omega)
  rw [List.nil_append, List.nil_append, d1] at this
  simp only [List.length_nil] at this
  rw [if_pos (by rfl)]
  show wainloadref03_PutOctal.l0 (m + 1 + 2) (digL m v) ((0 : Nat) : Int) = _
  rw [this]
  unfold octField ints
  simp

/-- A row that is read, of a block at B or above. -/
def RO (w : World) (B : Nat) (v : Value) (l : Bytes) : Prop :=
  ∃ g c, v = .slice (some ⟨g, 0, none⟩) l.length c ∧ l.length ≤ c ∧ l.length ≤ 9223372036854775807 ∧ B ≤ g ∧ g < w.heap.size ∧ ∀ j u, (Lib.byteCells l)[j]? = some u → w.cell? ⟨g, j, none⟩ = some u
theorem RO.reads {w : World} {B : Nat} {v : Value} {l : Bytes} (h : RO w B v l) : RB w v l := by
  obtain ⟨g, c, rfl, h1, h2, _, _, h5⟩ := h
  exact ⟨_, c, rfl, h1, h2, fun _ => ⟨_, rfl, fun j u hu => by rw [add_plain]; exact h5 j u hu⟩⟩
theorem RO.keep {w w1 : World} {B : Nat} {v : Value} {l : Bytes} (h : RO w B v l) (hs : w.heap.size ≤ w1.heap.size) (hk : ∀ k, B ≤ k → k < w.heap.size → w1.heap[k]? = w.heap[k]?) : RO w1 B v l := by
  obtain ⟨g, c, rfl, h1, h2, h3, h4, h5⟩ := h
  exact ⟨g, c, rfl, h1, h2, h3, by omega, fun j u hu => (World.cell?_of_block (hk g h3 h4)).trans (h5 j u hu)⟩
theorem RO.below {w w1 : World} {B : Nat} {v : Value} {l : Bytes} (h : RO w B v l) (hb : Below w.heap.size w w1) : RO w1 B v l := h.keep hb.size fun k _ hk => hb.block k hk
theorem RO.only {w w1 : World} {B g : Nat} {v : Value} {l : Bytes} (h : RO w B v l) (ho : Only w w1 g) (hg : g < B) : RO w1 B v l := h.keep (Nat.le_of_eq ho.size.symm) fun k h1 _ => ho.other k (by omega)
theorem ro_of_R {w : World} {B : Nat} {v : Value} {l : Bytes} (h : Kd.R (Kd.int .u8) 5 w B (fun _ => True) v (ints l)) (hp : 0 < l.length) : RO w B v l := by
  obtain ⟨g, cap, hv, h1, h2, _⟩ := Kd.R_form h (by rw [ints_length]; exact hp)
  obtain ⟨A, c, hv2, h3, hC⟩ := Kd.R_reads h
  rw [ints_length] at hv hv2 h3 hC
  rw [hv] at hv2
  injection hv2 with e1 e2 e3
  subst e1; subst e3
  have hm := Kd.C_max hC
  refine ⟨g, cap, hv, h3, hm, h1, h2, fun j u hu => ?_⟩
  have hj : j < l.length := by
    rcases Nat.lt_or_ge j l.length with h | h
    · exact h
    · rw [List.getElem?_eq_none (by rw [Lib.byteCells_length]; exact h)] at hu; cases hu
  obtain ⟨_, _, hc⟩ := Kd.reads_of_C (d := (0 : Int)) hC
  obtain ⟨ad, ea, hc⟩ := hc hp
  obtain rfl := Option.some.inj ea
  have := hc j hj
  have hri : (ints l).getD j 0 = (l[j].toNat : Int) := by have := rd_ints l j hj; unfold rd at this; rwa [Int.toNat_natCast] at this
  rw [add_plain, hri] at this
  rw [byteCells_get l j hj] at hu
  injection hu with hu
  rw [this, ← hu]
theorem ref_putoctal_calls (v n : Nat) (w : World) (hv : v ≤ 4611686018427387904) (h2 : 2 ≤ n) (hn : n ≤ 64) (hl : (octL v).length < n) :
    Calls Tryz.prog 51 #[.int .i64 v, .int .i64 n] w fun e w' => ∃ r, e = .returned (.tuple #[r, .bool true]) ∧ RO w' w.heap.size r (octField v n) ∧ Below w.heap.size w w' :=
  (wainloadref03_PutOctal.calls _ _ _ _ _ w (ref_putoctal_f v n hv h2 hn hl)).mono fun e w' ⟨r, he, hR, hb⟩ => ⟨r, he, ro_of_R hR (by rw [octField_length v n hl]; omega), hb⟩

theorem refsum_l0 (l : Bytes) (hl : l.length = 512) : ∀ (d k i acc : Nat), 512 - i = d → i ≤ 512 → d < k → acc ≤ 255 * i → wainloadref17_Sum.l0 k (ints l) (acc : Int) (i : Int) = some ((acc + sumFrom (l.drop i) i : Nat) : Int)
  | 0, k, i, acc, hd, hi, hk, ha => by
    obtain ⟨k, rfl⟩ : ∃ k', k = k' + 1 := ⟨k - 1, by omega⟩
    rw [wainloadref17_Sum.l0, if_neg (by omega), List.drop_of_length_le (by omega)]
    rfl
  | d + 1, k, i, acc, hd, hi, hk, ha => by
    obtain ⟨k, rfl⟩ : ∃ k', k = k' + 1 := ⟨k - 1, by omega⟩
    have hil : i < l.length := by omega
    have hb : l[i].toNat < 256 := l[i].toNat_lt
    have hdr : l.drop i = l[i] :: l.drop (i + 1) := List.drop_eq_getElem_cons hil
    have w1 : wrap64 ((i : Int) + 1) = ((i + 1 : Nat) : Int) := by rw [wrap64_in _ (by omega)]; rfl
    have w2 : wrap64 ((acc : Int) + 32) = ((acc + 32 : Nat) : Int) := by rw [wrap64_in _ (by omega)]; rfl
    have w3 : wrap64 ((acc : Int) + (wrap64 ((l[i].toNat : Nat) : Int))) = ((acc + l[i].toNat : Nat) : Int) := by rw [wrap64_in ((l[i].toNat : Nat) : Int) (by omega), wrap64_in _ (by omega)]; rfl
    rw [wainloadref17_Sum.l0, if_pos (by omega), hdr, sumFrom]
    by_cases h1 : 148 ≤ i
    · by_cases h2 : i < 156
      · rw [if_pos (by omega), if_pos (by omega), if_pos ⟨h1, h2⟩, w1, w2, refsum_l0 l hl d k (i + 1) (acc + 32) (by omega) (by omega) (by omega) (by omega)]
        congr 2; omega
      · rw [if_neg (show ¬ (148 ≤ i ∧ i < 156) by omega), if_pos (by omega), if_neg (by omega), if_pos (by omega), if_pos (by rw [ints_length]; omega), rd_ints l i hil, w1, w3, refsum_l0 l hl d k (i + 1) (acc + l[i].toNat) (by omega) (by omega) (by omega) (by omega)]
        congr 2; omega
    · rw [if_neg (show ¬ (148 ≤ i ∧ i < 156) by omega), if_neg (by omega), if_pos (by omega), if_pos (by rw [ints_length]; omega), rd_ints l i hil, w1, w3, refsum_l0 l hl d k (i + 1) (acc + l[i].toNat) (by omega) (by omega) (by omega) (by omega)]
      congr 2; omega
theorem ref_sum_calls (A : Option Addr) (n c : Nat) (l : Bytes) (hl : l.length = 512) (w : World) (h : RB w (.slice A n c) l) :
    Calls Tryz.prog 52 #[.slice A n c] w fun e w' => e = .returned (.int .i64 (sumS l)) ∧ Below w.heap.size w w' := by
  obtain ⟨rfl, hc, hr⟩ := h.ints
  have hf : wainloadref17_Sum.f 513 (ints l) = some (sumS l : Int) := by
    have := refsum_l0 l hl 512 513 0 0 (by omega) (by omega) (by omega) (by omega)
    unfold wainloadref17_Sum.f
    simpa [sumS] using this
  have h1 := wainloadref17_Sum.calls 513 A c (ints l) (sumS l : Int) w (by rw [ints_length]; exact Kd.C_of_reads hr) (by rw [ints_length]; exact hc) hf
  rw [ints_length] at h1
  refine h1.mono ?_
  rintro e w' ⟨he, hd⟩
  exact ⟨he, hd.below⟩
end Go.Proofs.YtkmcbpkciakmeaaGreatDoor.PA

/- The document's Header and Filled: the same bytes; nothing turns but new blocks and the orders drawn. -/
set_option linter.unusedVariables false
set_option linter.unusedSimpArgs false
namespace Go.Proofs.YtkmcbpkciakmeaaGreatDoor.PA
open Go.RowKit Go.Proofs.YtkmcbpkciakmeaaGreatDoorW.PrintWords Go.Proofs.YtkmcbpkciakmeaaGreatDoorW.PrintLast Go.Proofs.YtkmcbpkciakmeaaGreatDoorW.PrintMore

/-- What the walk knows: the row. -/
structure HdAt (w0 : World) (g : Nat) (l : Bytes) (W : World) : Prop where
  below : Below w0.heap.size w0 W
  row : Row W g l
  len : l.length = 512
  lo : w0.heap.size ≤ g
theorem HdAt.only {w0 : World} {g : Nat} {l m : Bytes} {W W' : World} (p : HdAt w0 g l W) (off : Nat) (hr : Row W' g (lay l off m)) (ho : Only W W' g) (hl : off + m.length ≤ 512) : HdAt w0 g (lay l off m) W' :=
  ⟨ho.below _ _ p.below p.lo, hr, by rw [lay_length _ _ _ (by rw [p.len]; exact hl)]; exact p.len, p.lo⟩
theorem HdAt.then_ {w0 : World} {g : Nat} {l : Bytes} {W W' : World} (p : HdAt w0 g l W) (hb : Below W.heap.size W W') : HdAt w0 g l W' :=
  ⟨below_then p.below p.below.size hb, p.row.keep (hb.block _ p.row.lt), p.len, p.lo⟩
theorem set_only (W : World) (g i : Nat) (v : Value) : Only W (W.setCell ⟨g, i, none⟩ v) g := ⟨fun B w0' hb hg => hb.setCell hg _, fun k hk => Below.heap_setCell _ _ _ _ hk, by simp [World.setCell]⟩
theorem HdAt.set {w0 : World} {g : Nat} {l : Bytes} {W : World} (p : HdAt w0 g l W) (i : Nat) (b : UInt8) (hi : i < 512) : HdAt w0 g (lay l i [b]) (W.setCell ⟨g, i, none⟩ (.int .u8 b.toNat)) := by
  refine p.only i ?_ (set_only W g i _) (by simp; omega)
  rw [lay_set _ _ _ (by rw [p.len]; exact hi)]
  unfold Row
  have hrow : W.heap[g]? = some (.cells (Lib.byteCells l).toArray 5 (0, 0)) := p.row
  simp only [World.setCell, Array.getElem?_modify, hrow, if_true, Option.map_some]
  congr 2
  apply Array.ext'
  simp [Lib.byteCells, List.map_set]
theorem HdAt.at_ {w0 : World} {g : Nat} {l : Bytes} {W : World} (p : HdAt w0 g l W) (i : Nat) (hi : i < 512) : (∃ v, W.cell? ⟨g, i, none⟩ = some v) ∧ W.frozen? ⟨g, i, none⟩ = false := by
  refine ⟨?_, blk_frozen p.row _⟩
  rw [cell_of_row W g i _ 5 (0, 0) p.row, Array.getElem?_eq_getElem (by simp [Lib.byteCells_length, p.len]; exact hi)]
  exact ⟨_, rfl⟩
theorem HdAt.reads {w0 : World} {g : Nat} {l : Bytes} {W : World} (p : HdAt w0 g l W) : RB W (.slice (some ⟨g, 0, none⟩) 512 512) l := by
  have := p.row.reads l.length (Nat.le_refl _) (by rw [p.len]; omega)
  rw [p.len] at this
  exact this

set_option maxHeartbeats 4000000 in
set_option maxRecDepth 100000 in
theorem ref_header_calls (h : Hd) (w : World) (hf : h.fits) :
    Calls Tryz.prog 26 #[.string h.name, .string h.link, .int .i64 h.mode, .int .i64 h.size, .int .i64 h.time, .int .u8 h.kind.toNat] w fun e w' => ∃ g, e = .returned (.slice (some ⟨g, 0, none⟩) 512 512) ∧ w.heap.size ≤ g ∧ Row w' g (hdS h) ∧ Below w.heap.size w w' := by
  have hmk := make512
  have HF := Aside0.mk hf
  obtain ⟨f1, f2, f3, f4, f5, f6⟩ := hf
  obtain ⟨name, link, mode, size, time, kind⟩ := h
  dsimp only at f1 f2 f3 f4 f5 f6 ⊢
  have o1 : (octField mode 8).length = 8 := octField_length mode 8 f1
  have o2 : (octField size 12).length = 12 := octField_length size 12 f2
  have o3 : (octField time 12).length = 12 := octField_length time 12 f3
  have h1 := Aside0.mk (fun W => ref_putoctal_calls mode 8 W f4 (by omega) (by omega) f1)
  have h2 := Aside0.mk (fun W => ref_putoctal_calls size 12 W f5 (by omega) (by omega) f2)
  have h3 := Aside0.mk (fun W => ref_putoctal_calls time 12 W f6 (by omega) (by omega) f3)
  have P0 : Aside0 (HdAt w w.heap.size (zeros 512) (w.alloc (.cells Z512 5))) := ⟨⟨below_alloc (Below.refl _ _) _, row_Z512 w, zeros_length _, Nat.le_refl _⟩⟩
  obtain ⟨L6, hL6⟩ : ∃ L6, L6 = head2 name.data.toList link.data.toList mode size time kind := ⟨_, rfl⟩
  have hl6 : L6.length = 512 := by rw [hL6]; exact head2_len _ _ _ _ _ _ f1 f2 f3
  have hle := sumFrom_le L6 0
  rw [hl6] at hle
  have hs8 : (octL (sumS L6)).length < 8 := octL_fit8 (by show sumFrom L6 0 < 2097152; omega)
  have hol : (octField (sumS L6) 8).length = 8 := octField_length _ 8 hs8
  have h4 := Aside0.mk (fun W => ref_putoctal_calls (sumS L6) 8 W (by show sumFrom L6 0 ≤ 4611686018427387904; omega) (by omega) (by omega) hs8)
  have HL6 := Aside0.mk hL6
  clear f1 f2 f3 f4 f5 f6 hL6 hle hs8
  go_enter Tryz.func26, Tryz.ntmps26
  go_wp2_with (first
    | ((with_reducible refine gate_builtin (b := .copy) (xs := #[.tmp 24, .tmp 25]) rfl ?_); refine wpList_copy_str rfl (.tmp 24) (.tmp 25) rfl w.heap.size 0 100 512 name (zeros 512) rfl rfl P0.out.row (by rw [P0.out.len]; decide) ?_; intro W1 hr1 ho1; have P1 := Aside0.mk (P0.out.only 0 hr1 ho1 (by rw [List.length_take]; omega)))
    | ((with_reducible refine gate_builtin (b := .copy) (xs := #[.tmp 28, .tmp 29]) rfl ?_); refine wpList_copy_str rfl (.tmp 28) (.tmp 29) rfl w.heap.size 157 100 355 link _ rfl rfl P1.out.row (by rw [P1.out.len]; decide) ?_; intro W2 hr2 ho2; have P2 : Aside0 (HdAt w w.heap.size (head0 name.data.toList link.data.toList) W2) := ⟨P1.out.only 157 hr2 ho2 (by rw [List.length_take]; omega)⟩; clear P1 hr1 ho1 hr2 ho2)
    | (go_at_call 51; first
      | (have hq := P8.out; clear hq; refine (h4.out _).mono ?_; rintro e w9 ⟨r9, rfl, hr9, hb9⟩; have P9 := Aside0.mk (P8.out.then_ hb9))
      | (have hq := P4.out; clear hq; refine (h3.out _).mono ?_; rintro e w5 ⟨r5, rfl, hr5, hb5⟩; have P5 := Aside0.mk (P4.out.then_ hb5); have A5 := Aside0.mk (A4.out.below hb5); have B5 := Aside0.mk (B4.out.below hb5); have C5 := Aside0.mk hr5)
      | (have hq := P3.out; clear hq; refine (h2.out _).mono ?_; rintro e w4 ⟨r4, rfl, hr4, hb4⟩; have P4 := Aside0.mk (P3.out.then_ hb4); have A4 := Aside0.mk (A3.out.below hb4); have B4 := Aside0.mk hr4)
      | (refine (h1.out _).mono ?_; rintro e w3 ⟨r3, rfl, hr3, hb3⟩; have P3 := Aside0.mk (P2.out.then_ hb3); have A3 := Aside0.mk hr3))
    | ((with_reducible refine gate_builtin (b := .copy) (xs := #[.tmp 47, .tmp 48]) rfl ?_); refine wpList_copy_bin rfl (.tmp 47) (.tmp 48) rfl w.heap.size 100 412 412 r3 (octField mode 8) _ rfl rfl A5.out.reads (by rw [o1]; decide) (by rw [o1]; decide) P5.out.row (by rw [P5.out.len]; decide) ?_; intro W6 hr6 ho6; have P6 : Aside0 (HdAt w w.heap.size (head1 name.data.toList link.data.toList mode size time 1) W6) := ⟨P5.out.only 100 hr6 ho6 (by rw [o1]; decide)⟩; have B6 := Aside0.mk (B5.out.only ho6 P3.out.row.lt); have C6 := Aside0.mk (C5.out.only ho6 P4.out.row.lt))
    | ((with_reducible refine gate_builtin (b := .copy) (xs := #[.tmp 51, .tmp 52]) rfl ?_); refine wpList_copy_bin rfl (.tmp 51) (.tmp 52) rfl w.heap.size 124 388 388 r4 (octField size 12) _ rfl rfl B6.out.reads (by rw [o2]; decide) (by rw [o2]; decide) P6.out.row (by rw [P6.out.len]; decide) ?_; intro W7 hr7 ho7; have P7 : Aside0 (HdAt w w.heap.size (head1 name.data.toList link.data.toList mode size time 2) W7) := ⟨P6.out.only 124 hr7 ho7 (by rw [o2]; decide)⟩; have C7 := Aside0.mk (C6.out.only ho7 P4.out.row.lt))
    | ((with_reducible refine gate_builtin (b := .copy) (xs := #[.tmp 55, .tmp 56]) rfl ?_); refine wpList_copy_bin rfl (.tmp 55) (.tmp 56) rfl w.heap.size 136 376 376 r5 (octField time 12) _ rfl rfl C7.out.reads (by rw [o3]; decide) (by rw [o3]; decide) P7.out.row (by rw [P7.out.len]; decide) ?_; intro W8 hr8 ho8; have Q8 : Aside0 (HdAt w w.heap.size (head1 name.data.toList link.data.toList mode size time 3) W8) := ⟨P7.out.only 136 hr8 ho8 (by rw [o3]; decide)⟩; obtain ⟨⟨v156, hv156⟩, hf156⟩ := Q8.out.at_ 156 (by omega); have R8 := Aside0.mk (Q8.out.set 156 kind (by omega)))
    | ((with_reducible refine gate_builtin (b := .copy) (xs := #[.tmp 62, .const (.string ⟨#[117, 115, 116, 97, 114, 0, 48, 48]⟩)]) rfl ?_); refine wpList_copy_str rfl (.tmp 62) (.const (.string ⟨#[117, 115, 116, 97, 114, 0, 48, 48]⟩)) rfl w.heap.size 257 255 255 ⟨#[117, 115, 116, 97, 114, 0, 48, 48]⟩ _ rfl rfl R8.out.row (by rw [R8.out.len]; decide) ?_; intro w6 hr6u ho6u; have PU : Aside0 (HdAt w w.heap.size L6 w6) := (by have := R8.out.only 257 hr6u ho6u (by decide); rw [HL6.out]; exact ⟨this⟩))
    | (go_at_call 52; refine (ref_sum_calls (some ⟨w.heap.size, 0, none⟩) 512 512 L6 hl6 _ PU.out.reads).mono ?_; rintro e w7 ⟨rfl, hb7⟩; have P8 := Aside0.mk (PU.out.then_ hb7))
    | ((with_reducible refine gate_builtin (b := .copy) (xs := #[.tmp 71, .tmp 72]) rfl ?_); refine wpList_copy_bin rfl (.tmp 71) (.tmp 72) rfl w.heap.size 148 364 364 r9 (octField (sumS L6) 8) _ rfl rfl hr9.reads (by rw [hol]; decide) (by rw [hol]; decide) P9.out.row (by rw [P9.out.len]; decide) ?_; intro w10 hr10 ho10))
  go_ret
  have hP9 := P9.out.only 148 hr10 ho10 (by rw [hol]; decide)
  exact ⟨_, rfl, Nat.le_refl _, by unfold hdS headS; rw [← HL6.out]; exact hP9.row, hP9.below⟩

/-- A row of one zero. -/
theorem one_zero (W : World) : RB (W.alloc (.cells #[.int .u8 0] 5)) (.slice (some ⟨W.heap.size, 0, none⟩) 1 1) [0] := by
  have h : Row (W.alloc (.cells #[.int .u8 0] 5)) W.heap.size [0] := heap_alloc_new W _
  exact h.reads 1 (Nat.le_refl _) (by simp)

set_option maxHeartbeats 2000000 in
set_option maxRecDepth 100000 in
theorem ref_filled_calls (s : ByteArray) (w : World) (hs : s.size ≤ 70368744177664) :
    Calls Tryz.prog 27 #[.string s] w fun e w' => ∃ v, e = .returned v ∧ Bin w' w.heap.size v (fillS s.data.toList) ∧ Below w.heap.size w w' := by
  obtain ⟨v, w1, hrun, hbin, hb⟩ := run_conv_bin s w (by omega)
  have hbin := Aside0.mk (hbin w.heap.size (Nat.le_refl _))
  have HB1 := Aside0.mk hb
  obtain ⟨m, hm⟩ : ∃ m : Nat, m = (512 - s.size % 512) % 512 := ⟨_, rfl⟩
  have hml : m < 512 := by omega
  have HF : Aside0 (fillS s.data.toList = s.data.toList ++ List.replicate m 0) := ⟨by unfold fillS; rw [data_length, ← hm]⟩
  have HM := Aside0.mk hm
  have hz := one_zero
  clear hm hb
  go_enter Tryz.func27, Tryz.ntmps27
  go_wp2_with fail
  go_loopw [3] (fun v3 wr => ∃ j : Nat, j ≤ m ∧ Aside0 (Bin wr w.heap.size v3 (s.data.toList ++ List.replicate j 0)) ∧ Aside0 (Below w.heap.size w wr) ∧ ∃ A c, v3 = .slice A (s.size + j) c) (fun v3 _ => match v3 with | .slice _ n _ => s.size + m - n | _ => 0)
  case atStart => 
    have e : s.data.toList ++ List.replicate 0 (0 : UInt8) = s.data.toList := by simp
    obtain ⟨A, c, hv, _⟩ := hbin.out.reads
    rw [data_length] at hv
    exact ⟨0, by omega, ⟨by rw [e]; exact hbin.out⟩, HB1, A, c, hv⟩
  case round =>
    obtain ⟨j, hj, hB, hW, A, c, rfl⟩ := hrel
    by_cases hlt : j < m
    · have e1 : ((((s.size + j : Nat) : Int)).tmod 512 != 0) = true := by
        rw [bne_iff_ne, Int.tmod_eq_emod_of_nonneg (by omega)]; have := HM.out; omega
      have e2 : ((s.size : Int) + (j : Int)) % 512 ≠ 0 := by have := HM.out; omega
      have hB2 : Aside0 (Bin (wr.alloc (.cells #[.int .u8 0] 5)) w.heap.size (.slice A (s.size + j) c) (s.data.toList ++ List.replicate j 0)) := ⟨hB.out.below (below_alloc (Below.refl _ _) _)⟩
      have hW2 : Aside0 (Below w.heap.size w (wr.alloc (.cells #[.int .u8 0] 5))) := ⟨below_alloc hW.out _⟩
      have hjl : (s.data.toList ++ List.replicate j (0 : UInt8)).length = s.size + j := by rw [List.length_append, List.length_replicate, data_length]
      have hje : s.data.toList ++ List.replicate j (0 : UInt8) ++ [0] = s.data.toList ++ List.replicate (j + 1) 0 := by rw [List.append_assoc, List.replicate_succ']
      have HJ := Aside0.mk hje
      clear hje
      go_wp2_with (first | ((with_reducible refine gate_builtin (b := .append) (xs := #[.tmp 10, .tmp 11]) rfl ?_); at_builtin; refine wpList_append_bin rfl (.tmp 10) (.tmp 11) rfl w.heap.size _ _ (s.data.toList ++ List.replicate j 0) [0] rfl rfl hB2.out (hz _) (by rw [hjl]; simp; omega) hW2.out.size ?_; intro v5 w5 hv5 hg5 hat5; rw [HJ.out] at hv5; have hA5 : (∃ A c, v5 = .slice A (s.size + (j + 1)) c) := (by obtain ⟨A, c, h, _⟩ := hv5.reads; exact ⟨A, c, by rw [h, List.length_append, List.length_replicate, data_length]⟩); obtain ⟨A5, c5, rfl⟩ := hA5; have HV5 := Aside0.mk hv5; have HB5 := Aside0.mk (below_grown' hW2.out hB2.out hg5); clear hv5 hg5 hat5))
      go_roundw
      case rel => exact ⟨j + 1, hlt, HV5, HB5, A5, c5, rfl⟩
      case measure => show s.size + m - (s.size + (j + 1)) < s.size + m - (s.size + j); omega
    · obtain rfl : j = m := by omega
      have e2 : ((s.size : Int) + (j : Int)) % 512 = 0 := by have := HM.out; omega
      go_wp2_with fail
      go_ret
      exact ⟨_, rfl, by rw [HF.out]; exact hB.out, hW.out⟩
end Go.Proofs.YtkmcbpkciakmeaaGreatDoor.PA

/- The document's PutSeconds: the same text; nothing turns but new blocks and the orders drawn. -/
set_option linter.unusedVariables false
set_option linter.unusedSimpArgs false
namespace Go.Proofs.YtkmcbpkciakmeaaGreatDoor.PA
open Go.RowKit Go.Proofs.YtkmcbpkciakmeaaGreatDoorW.PrintWords Go.Proofs.YtkmcbpkciakmeaaGreatDoorW.PrintLast Go.Proofs.YtkmcbpkciakmeaaGreatDoorW.PrintMore

theorem tdiv_neg (n d : Nat) : Int.tdiv (-(n : Int)) (d : Int) = -((n / d : Nat) : Int) := by
  rw [Int.neg_tdiv, Int.tdiv_eq_ediv_of_nonneg (by omega)]; rfl
theorem tmod_neg (n d : Nat) : Int.tmod (-(n : Int)) (d : Int) = -((n % d : Nat) : Int) := by
  rw [Int.neg_tmod, Int.tmod_eq_emod_of_nonneg (by omega)]; rfl
theorem below_digit (n : Nat) : strOfNums [(wrap64 (48 - (Int.tmod (-(n : Int)) 10))) % 256] = str [UInt8.ofNat (48 + n % 10)] := by
  have e := tmod_neg n 10
  rw [show ((10 : Nat) : Int) = 10 from rfl] at e
  rw [e, w_in _ (by omega), ← strOfNums_ints [UInt8.ofNat (48 + n % 10)]]
  have : (UInt8.ofNat (48 + n % 10)).toNat = 48 + n % 10 := by rw [UInt8.toNat_ofNat']; omega
  show _ = strOfNums [((UInt8.ofNat (48 + n % 10)).toNat : Int)]
  rw [this]
  congr 2
  omega
theorem below_f : ∀ (k n : Nat), decLen n ≤ k → n ≤ 9223372036854775807 → wainloadref03_below.f k (-(n : Int)) = some (str (Lib.decDigits n))
  | 0, n, h, _ => by have := decLen_pos n; omega
  | k + 1, n, h, hn => by
    rw [wainloadref03_below.f, Option.bind_some, below_digit]
    rcases Nat.lt_or_ge n 10 with h1 | h1
    · rw [if_pos (by omega), dec_lt h1, Nat.mod_eq_of_lt h1]
    · rw [if_neg (by omega)]
      rw [decLen_ge h1] at h
      have e1 : wrap64 (Int.tdiv (-(n : Int)) 10) = -((n / 10 : Nat) : Int) := by
        have e := tdiv_neg n 10
        rw [show ((10 : Nat) : Int) = 10 from rfl] at e
        rw [e, w_in _ (by omega)]
      have ih := below_f k (n / 10) (by omega) (by omega)
      have hs : decLen (n / 10) ≤ 20 := decLen_le _ (by omega)
      rw [e1, ih, Option.bind_some, if_pos (by rw [str_size, str_size]; unfold decLen at hs; simp only [List.length_cons, List.length_nil]; omega), str_append, dec_ge h1]
theorem ref_below (n : Nat) (w : World) (hn : n ≤ 9223372036854775807) : Calls Tryz.prog 50 #[.int .i64 (-(n : Int))] w fun e w' => e = .returned (.string (str (Lib.decDigits n))) ∧ Below w.heap.size w w' :=
  wainloadref03_below.calls 20 _ _ w (below_f 20 n (decLen_le n (by omega)) hn)

/-! the fraction's digits, the highest first -/
def frD : Nat → Nat → Bytes
  | 0, _ => []
  | n + 1, r => UInt8.ofNat (48 + r * 10 / 1000000000) :: frD n (r * 10 % 1000000000)
def padD : Nat → Nat → Bytes
  | 0, _ => []
  | m + 1, r => padD m (r / 10) ++ [UInt8.ofNat (48 + r % 10)]
theorem padD_head : ∀ (n q : Nat), q < 10 ^ (n + 1) → padD (n + 1) q = UInt8.ofNat (48 + q / 10 ^ n) :: padD n (q % 10 ^ n)
  | 0, q, h => by
    have : q < 10 := by simpa using h
    simp [padD, Nat.mod_eq_of_lt this]
  | n + 1, q, h => by
    have h2 : q / 10 < 10 ^ (n + 1) := by rw [Nat.pow_succ] at h; omega
    rw [padD, padD_head n (q / 10) h2]
    have e1 : q / 10 / 10 ^ n = q / 10 ^ (n + 1) := by rw [Nat.div_div_eq_div_mul, Nat.pow_succ, Nat.mul_comm]
    have e2 : (q % 10 ^ (n + 1)) / 10 = q / 10 % 10 ^ n := by rw [Nat.pow_succ, Nat.mul_comm, Nat.mod_mul_right_div_self]
    have e3 : (q % 10 ^ (n + 1)) % 10 = q % 10 := Nat.mod_mod_of_dvd _ (by rw [Nat.pow_succ]; exact Nat.dvd_mul_left _ _)
    rw [e1, show padD (n + 1) (q % 10 ^ (n + 1)) = padD n ((q % 10 ^ (n + 1)) / 10) ++ [UInt8.ofNat (48 + (q % 10 ^ (n + 1)) % 10)] from rfl, e2, e3]
    rfl
theorem frD_pad : ∀ (n q : Nat), n ≤ 9 → q < 10 ^ n → frD n (q * 10 ^ (9 - n)) = padD n q
  | 0, q, _, _ => rfl
  | n + 1, q, h, hq => by
    have hE : 10 ^ (9 - n) = 10 ^ (9 - (n + 1)) * 10 := by rw [← Nat.pow_succ]; congr 1; omega
    have hM : 1000000000 = 10 ^ n * 10 ^ (9 - n) := by rw [← Nat.pow_add, show n + (9 - n) = 9 by omega]
    have hp : 0 < 10 ^ (9 - n) := Nat.pow_pos (by decide)
    have e0 : q * 10 ^ (9 - (n + 1)) * 10 = q * 10 ^ (9 - n) := by rw [hE, Nat.mul_assoc]
    rw [frD, e0]
    have e1 : q * 10 ^ (9 - n) / (10 ^ n * 10 ^ (9 - n)) = q / 10 ^ n := Nat.mul_div_mul_right _ _ hp
    have e2 : q * 10 ^ (9 - n) % (10 ^ n * 10 ^ (9 - n)) = (q % 10 ^ n) * 10 ^ (9 - n) := Nat.mul_mod_mul_right _ _ _
    rw [← hM] at e1 e2
    rw [e1, e2, frD_pad n (q % 10 ^ n) (by omega) (Nat.mod_lt _ (Nat.pow_pos (by decide))), padD_head n q hq]
theorem dec_padD : ∀ (m r : Nat), r < 10 ^ m → Lib.decDigits (10 ^ m + r) = 49 :: padD m r
  | 0, r, h => by
    obtain rfl : r = 0 := by simpa using h
    rw [dec_lt (by decide)]; rfl
  | m + 1, r, h => by
    have h2 : r / 10 < 10 ^ m := by rw [Nat.pow_succ] at h; omega
    have hp : 0 < 10 ^ m := Nat.pow_pos (by decide)
    rw [dec_ge (by rw [Nat.pow_succ]; omega), show (10 ^ (m + 1) + r) / 10 = 10 ^ m + r / 10 by rw [Nat.pow_succ]; omega, show (10 ^ (m + 1) + r) % 10 = r % 10 by rw [Nat.pow_succ]; omega, dec_padD m (r / 10) h2]
    rfl
theorem frac_eq (r : Nat) (h : r < 1000000000) : (Lib.decDigits (1000000000 + r)).drop 1 = frD 9 r := by
  have h1 := dec_padD 9 r (by omega)
  have h2 := frD_pad 9 r (by omega) (by omega)
  rw [show (10 : Nat) ^ (9 - 9) = 1 from rfl, Nat.mul_one] at h2
  rw [show (10 : Nat) ^ 9 = 1000000000 from rfl] at h1
  rw [h1, h2]
  rfl
theorem trimR_cons (d : UInt8) (x : Bytes) (c : UInt8) : Lib.trimRightB (d :: x) c = if Lib.trimRightB x c = [] ∧ d = c then [] else d :: Lib.trimRightB x c := by
  unfold Lib.trimRightB
  rw [List.reverse_cons, List.dropWhile_append]
  cases h : x.reverse.dropWhile (fun y => y == c) with
  | nil =>
    rw [List.isEmpty_nil, if_pos rfl, List.dropWhile_cons]
    by_cases hd : d = c
    · rw [if_pos (by simpa using hd), if_pos ⟨rfl, hd⟩]; rfl
    · rw [if_neg (by simpa using hd), if_neg (fun h => hd h.2)]; rfl
  | cons a r => rw [List.isEmpty_cons, if_neg (by simp), if_neg (by simp)]; simp
theorem frD_zero : ∀ n, frD n 0 = List.replicate n 48
  | 0 => rfl
  | n + 1 => by rw [frD, Nat.zero_mul, Nat.zero_mod, frD_zero n]; rfl
theorem trimR_zeros : ∀ n, Lib.trimRightB (List.replicate n 48) 48 = []
  | 0 => rfl
  | n + 1 => by rw [List.replicate_succ, trimR_cons, trimR_zeros n, if_pos ⟨rfl, rfl⟩]
/-- What is left to write of a fraction: so many digits at most. -/
def Lasts (n r : Nat) : Prop := r < 1000000000 ∧ r * 10 ^ n % 1000000000 = 0
theorem Lasts.zero {r : Nat} (h : Lasts 0 r) : r = 0 := by have := h.2; rw [Nat.pow_zero, Nat.mul_one, Nat.mod_eq_of_lt h.1] at this; exact this
theorem Lasts.next {n r : Nat} (h : Lasts (n + 1) r) : Lasts n (r * 10 % 1000000000) := by
  refine ⟨Nat.mod_lt _ (by decide), ?_⟩
  rw [Nat.mod_mul_mod, Nat.mul_assoc, ← Nat.pow_succ']
  exact h.2
theorem frD_nonzero : ∀ (n r : Nat), Lasts n r → r ≠ 0 → Lib.trimRightB (frD n r) 48 ≠ []
  | 0, r, h, h0 => absurd h.zero h0
  | n + 1, r, h, h0 => by
    have h1 := h.1
    rw [frD, trimR_cons]
    by_cases hz : r * 10 % 1000000000 = 0
    · rw [if_neg]
      · simp
      · rintro ⟨_, he⟩
        have := congrArg UInt8.toNat he
        rw [UInt8.toNat_ofNat', Nat.mod_eq_of_lt (show 48 + r * 10 / 1000000000 < 2 ^ 8 by omega)] at this
        have e48 : (48 : UInt8).toNat = 48 := rfl
        omega
    · rw [if_neg (fun hc => frD_nonzero n _ h.next hz hc.1)]; simp
theorem frac_step {n r : Nat} (h : Lasts (n + 1) r) (h0 : r ≠ 0) : Lib.trimRightB (frD (n + 1) r) 48 = UInt8.ofNat (48 + r * 10 / 1000000000) :: Lib.trimRightB (frD n (r * 10 % 1000000000)) 48 := by
  have hn := frD_nonzero (n + 1) r h h0
  rw [frD, trimR_cons] at hn ⊢
  split at hn
  · exact absurd rfl hn
  · rename_i hc; rw [if_neg hc]
theorem frac_end (n : Nat) : Lib.trimRightB (frD n 0) 48 = [] := by rw [frD_zero, trimR_zeros]

set_option maxHeartbeats 4000000 in
set_option maxRecDepth 100000 in
theorem ref_putsec_neg (V : Nat) (h0 : 1 ≤ V) (hV : V ≤ 9223372036854775808) (w : World) :
    Calls Tryz.prog 25 #[.int .i64 (-(V : Int))] w fun e w' => e = .returned (.string (str (([45] : Bytes) ++ secS V))) ∧ Below w.heap.size w w' := by
  obtain ⟨Q, hQ⟩ : ∃ Q, Q = V / 1000000000 := ⟨_, rfl⟩
  obtain ⟨r, hr⟩ : ∃ r, r = V % 1000000000 := ⟨_, rfl⟩
  have hrl : r < 1000000000 := by omega
  have hQl : Q ≤ 9223372037 := by omega
  have eq_ : (-(V : Int)).tdiv 1000000000 = -(Q : Int) := by rw [hQ]; exact tdiv_neg V 1000000000
  have er_ : (-(V : Int)).tmod 1000000000 = -(r : Int) := by rw [hr]; exact tmod_neg V 1000000000
  have hs : secS V = if r = 0 then Lib.decDigits Q else Lib.decDigits Q ++ [46] ++ Lib.trimRightB (frD 9 r) 48 := by
    unfold secS; rw [← hQ, ← hr, frac_eq r hrl]
  have HS := Aside0.mk hs
  have H50 := Aside0.mk (fun W => ref_below Q W (by omega))
  have hdl : (Lib.decDigits Q).length ≤ 20 := decDigits_le20 Q (by omega)
  obtain ⟨D, hD⟩ : ∃ D, D = str (Lib.decDigits Q) := ⟨_, rfl⟩
  have hDs : D.size ≤ 20 := by rw [hD, str_size]; exact hdl
  rw [← hD] at H50
  have HD := Aside0.mk hD
  have hLast : Lasts 9 r := ⟨hrl, by omega⟩
  have HL := Aside0.mk hLast
  have hneg : -9223372036854775808 ≤ -(V : Int) := by omega
  have HDL := Aside0.mk hdl
  clear hs hD hQ hr hLast hdl
  go_enter Tryz.func25, Tryz.ntmps25
  by_cases hz : r = 0
  · have hzi : (-(r : Int) == 0) = true := by rw [beq_iff_eq]; omega
    have HZ := Aside0.mk hz
    go_wp2_with (first | (go_at_call 50; refine (H50.out _).mono ?_; rintro e w1 ⟨rfl, hb1⟩))
    go_ret
    refine ⟨?_, hb1⟩
    rw [HS.out, if_pos HZ.out, HD.out]
    rw [show (⟨#[45]⟩ : ByteArray) = str [45] from rfl, str_append]; rfl
  · have hzi : (-(r : Int) == 0) = false := by rw [beq_eq_false_iff_ne]; omega
    have HZ := Aside0.mk hz
    have HT : Aside0 (([45] : Bytes) ++ secS V = ([45] ++ Lib.decDigits Q ++ [46]) ++ Lib.trimRightB (frD 9 r) 48) := ⟨by rw [HS.out, if_neg hz]; simp⟩
    obtain ⟨TT, hTT⟩ : ∃ TT, TT = ([45] : Bytes) ++ secS V := ⟨_, rfl⟩
    rw [← hTT] at HT
    have HTT := Aside0.mk hTT
    obtain ⟨A0, hA0⟩ : ∃ A0 : Bytes, A0 = [45] ++ Lib.decDigits Q ++ [46] := ⟨_, rfl⟩
    rw [← hA0] at HT
    have hal : A0.length ≤ 22 := by rw [hA0]; simp; have := HDL.out; omega
    have HA0 : Aside0 ((⟨#[45]⟩ : ByteArray) ++ D ++ (⟨#[46]⟩ : ByteArray) = str A0) := ⟨by rw [HD.out, hA0, show (⟨#[45]⟩ : ByteArray) = str [45] from rfl, show (⟨#[46]⟩ : ByteArray) = str [46] from rfl, str_append, str_append]⟩
    clear hz hTT hA0
    go_wp2_with (first | (go_at_call 50; refine (H50.out _).mono ?_; rintro e w1 ⟨rfl, hb1⟩))
    have HB1 := Aside0.mk hb1
    clear hb1
    go_loopg [3, 4] 9 (fun kx v3 v4 wr => ∃ (n q : Nat) (acc : Bytes), n ≤ kx ∧ v3 = .string (str acc) ∧ v4 = .int .i64 (-(q : Int)) ∧ q < 1000000000 ∧ acc.length + n ≤ 40 ∧ Aside0 (Lasts n q) ∧ Aside0 (TT = acc ++ Lib.trimRightB (frD n q) 48) ∧ Aside0 (Below w.heap.size w wr))
    case atStart => exact ⟨9, r, A0, Nat.le_refl _, by first | rw [← HA0.out] | (rw [← HA0.out]; simp [str]), rfl, hrl, by omega, HL, HT, HB1⟩
    case round =>
      obtain ⟨n, q, acc, hnk, rfl, rfl, hql, hlen, hLs, hTg, hB⟩ := hrel
      have hacs : (str acc).size ≤ 40 := by rw [str_size]; omega
      obtain ⟨AC, hAC⟩ : ∃ AC, AC = str acc := ⟨_, rfl⟩
      rw [← hAC] at hacs ⊢
      have HAC := Aside0.mk hAC
      clear hAC
      by_cases hq : q = 0
      · have hzi2 : (-(q : Int) != 0) = false := by rw [bne_eq_false_iff_eq]; omega
        have HQ := Aside0.mk hq
        clear hq
        go_wp2_with fail
        go_ret
        refine ⟨?_, hB.out⟩
        have := hTg.out
        rw [HQ.out, frac_end, List.append_nil] at this
        first | (rw [← HTT.out, this, ← HAC.out]; rfl) | (have h2 := HTT.out; rw [this] at h2; rw [HAC.out, h2]; rfl)
      · have hzi2 : (-(q : Int) != 0) = true := by rw [bne_iff_ne]; omega
        obtain ⟨n', hn'⟩ : ∃ n', n = n' + 1 := ⟨n - 1, by
          have : n ≠ 0 := fun h0 => hq (by have := hLs.out; rw [h0] at this; exact this.zero)
          omega⟩
        subst hn'
        obtain ⟨T, hT⟩ : ∃ T, T = q * 10 := ⟨_, rfl⟩
        obtain ⟨d, hd⟩ : ∃ d, d = T / 1000000000 := ⟨_, rfl⟩
        obtain ⟨q', hq'⟩ : ∃ q', q' = T % 1000000000 := ⟨_, rfl⟩
        have hTi : -(q : Int) * 10 = -(T : Int) := by omega
        have hTl : T < 10000000000 := by omega
        have ed_ : (-(T : Int)).tdiv 1000000000 = -(d : Int) := by rw [hd]; exact tdiv_neg T 1000000000
        have em_ : (-(T : Int)).tmod 1000000000 = -(q' : Int) := by rw [hq']; exact tmod_neg T 1000000000
        have hd10 : d < 10 := by omega
        have H50d := Aside0.mk (fun W => ref_below d W (by omega))
        obtain ⟨E, hE⟩ : ∃ E, E = str (Lib.decDigits d) := ⟨_, rfl⟩
        have hEs : E.size ≤ 20 := by rw [hE, str_size]; exact decDigits_le20 d (by omega)
        rw [← hE] at H50d
        have HE : Aside0 (AC ++ E = str (acc ++ [UInt8.ofNat (48 + d)])) := ⟨by rw [hE, HAC.out, dec_lt hd10, str_append]⟩
        have HTg2 : Aside0 (TT = acc ++ [UInt8.ofNat (48 + d)] ++ Lib.trimRightB (frD n' q') 48) := ⟨by
          rw [hTg.out, frac_step hLs.out hq, hd, hq', hT]; simp⟩
        have HLs2 : Aside0 (Lasts n' q') := ⟨by rw [hq', hT]; exact hLs.out.next⟩
        have hq'l : q' < 1000000000 := by omega
        clear hT hd hq' hE hq
        go_wp2_with (first | (go_at_call 50; refine (H50d.out _).mono ?_; rintro e w2 ⟨rfl, hb2⟩; have HB2 := Aside0.mk (below_then hB.out hB.out.size hb2)))
        go_roundg n'
        case measure => omega
        case rel => exact ⟨n', q', acc ++ [UInt8.ofNat (48 + d)], Nat.le_refl _, by rw [← HE.out], rfl, hq'l, by simp; omega, HLs2, HTg2, HB2⟩

set_option maxHeartbeats 4000000 in
set_option maxRecDepth 100000 in
theorem ref_putsec_pos (V : Nat) (h0 : 0 ≤ V) (hV : V ≤ 9223372036854775807) (w : World) :
    Calls Tryz.prog 25 #[.int .i64 ((V : Int))] w fun e w' => e = .returned (.string (str (([] : Bytes) ++ secS V))) ∧ Below w.heap.size w w' := by
  obtain ⟨Q, hQ⟩ : ∃ Q, Q = V / 1000000000 := ⟨_, rfl⟩
  obtain ⟨r, hr⟩ : ∃ r, r = V % 1000000000 := ⟨_, rfl⟩
  have hrl : r < 1000000000 := by omega
  have hQl : Q ≤ 9223372037 := by omega
  have eq_ : (-(V : Int)).tdiv 1000000000 = -(Q : Int) := by rw [hQ]; exact tdiv_neg V 1000000000
  have er_ : (-(V : Int)).tmod 1000000000 = -(r : Int) := by rw [hr]; exact tmod_neg V 1000000000
  have hs : secS V = if r = 0 then Lib.decDigits Q else Lib.decDigits Q ++ [46] ++ Lib.trimRightB (frD 9 r) 48 := by
    unfold secS; rw [← hQ, ← hr, frac_eq r hrl]
  have HS := Aside0.mk hs
  have H50 := Aside0.mk (fun W => ref_below Q W (by omega))
  have hdl : (Lib.decDigits Q).length ≤ 20 := decDigits_le20 Q (by omega)
  obtain ⟨D, hD⟩ : ∃ D, D = str (Lib.decDigits Q) := ⟨_, rfl⟩
  have hDs : D.size ≤ 20 := by rw [hD, str_size]; exact hdl
  rw [← hD] at H50
  have HD := Aside0.mk hD
  have hLast : Lasts 9 r := ⟨hrl, by omega⟩
  have HL := Aside0.mk hLast
  have hneg : -9223372036854775808 ≤ -(V : Int) := by omega
  have HDL := Aside0.mk hdl
  clear hs hD hQ hr hLast hdl
  go_enter Tryz.func25, Tryz.ntmps25
  by_cases hz : r = 0
  · have hzi : (-(r : Int) == 0) = true := by rw [beq_iff_eq]; omega
    have HZ := Aside0.mk hz
    go_wp2_with (first | (go_at_call 50; refine (H50.out _).mono ?_; rintro e w1 ⟨rfl, hb1⟩))
    go_ret
    refine ⟨?_, hb1⟩
    rw [HS.out, if_pos HZ.out, HD.out]
    first | rfl | (rw [show (⟨#[]⟩ : ByteArray) = str [] from rfl, str_append]; rfl) | simp [str]
  · have hzi : (-(r : Int) == 0) = false := by rw [beq_eq_false_iff_ne]; omega
    have HZ := Aside0.mk hz
    have HT : Aside0 (([] : Bytes) ++ secS V = ([] ++ Lib.decDigits Q ++ [46]) ++ Lib.trimRightB (frD 9 r) 48) := ⟨by rw [HS.out, if_neg hz]; simp⟩
    obtain ⟨TT, hTT⟩ : ∃ TT, TT = ([] : Bytes) ++ secS V := ⟨_, rfl⟩
    rw [← hTT] at HT
    have HTT := Aside0.mk hTT
    obtain ⟨A0, hA0⟩ : ∃ A0 : Bytes, A0 = [] ++ Lib.decDigits Q ++ [46] := ⟨_, rfl⟩
    rw [← hA0] at HT
    have hal : A0.length ≤ 22 := by rw [hA0]; simp; have := HDL.out; omega
    have HA0 : Aside0 ((⟨#[]⟩ : ByteArray) ++ D ++ (⟨#[46]⟩ : ByteArray) = str A0) := ⟨by rw [HD.out, hA0, show (⟨#[]⟩ : ByteArray) = str [] from rfl, show (⟨#[46]⟩ : ByteArray) = str [46] from rfl, str_append, str_append]⟩
    clear hz hTT hA0
    go_wp2_with (first | (go_at_call 50; refine (H50.out _).mono ?_; rintro e w1 ⟨rfl, hb1⟩))
    have HB1 := Aside0.mk hb1
    clear hb1
    go_loopg [3, 4] 9 (fun kx v3 v4 wr => ∃ (n q : Nat) (acc : Bytes), n ≤ kx ∧ v3 = .string (str acc) ∧ v4 = .int .i64 (-(q : Int)) ∧ q < 1000000000 ∧ acc.length + n ≤ 40 ∧ Aside0 (Lasts n q) ∧ Aside0 (TT = acc ++ Lib.trimRightB (frD n q) 48) ∧ Aside0 (Below w.heap.size w wr))
    case atStart => exact ⟨9, r, A0, Nat.le_refl _, by first | rw [← HA0.out] | (rw [← HA0.out]; simp [str]), rfl, hrl, by omega, HL, HT, HB1⟩
    case round =>
      obtain ⟨n, q, acc, hnk, rfl, rfl, hql, hlen, hLs, hTg, hB⟩ := hrel
      have hacs : (str acc).size ≤ 40 := by rw [str_size]; omega
      obtain ⟨AC, hAC⟩ : ∃ AC, AC = str acc := ⟨_, rfl⟩
      rw [← hAC] at hacs ⊢
      have HAC := Aside0.mk hAC
      clear hAC
      by_cases hq : q = 0
      · have hzi2 : (-(q : Int) != 0) = false := by rw [bne_eq_false_iff_eq]; omega
        have HQ := Aside0.mk hq
        clear hq
        go_wp2_with fail
        go_ret
        refine ⟨?_, hB.out⟩
        have := hTg.out
        rw [HQ.out, frac_end, List.append_nil] at this
        first | (rw [← HTT.out, this, ← HAC.out]; rfl) | (have h2 := HTT.out; rw [this] at h2; rw [HAC.out, h2]; rfl)
      · have hzi2 : (-(q : Int) != 0) = true := by rw [bne_iff_ne]; omega
        obtain ⟨n', hn'⟩ : ∃ n', n = n' + 1 := ⟨n - 1, by
          have : n ≠ 0 := fun h0 => hq (by have := hLs.out; rw [h0] at this; exact this.zero)
          omega⟩
        subst hn'
        obtain ⟨T, hT⟩ : ∃ T, T = q * 10 := ⟨_, rfl⟩
        obtain ⟨d, hd⟩ : ∃ d, d = T / 1000000000 := ⟨_, rfl⟩
        obtain ⟨q', hq'⟩ : ∃ q', q' = T % 1000000000 := ⟨_, rfl⟩
        have hTi : -(q : Int) * 10 = -(T : Int) := by omega
        have hTl : T < 10000000000 := by omega
        have ed_ : (-(T : Int)).tdiv 1000000000 = -(d : Int) := by rw [hd]; exact tdiv_neg T 1000000000
        have em_ : (-(T : Int)).tmod 1000000000 = -(q' : Int) := by rw [hq']; exact tmod_neg T 1000000000
        have hd10 : d < 10 := by omega
        have H50d := Aside0.mk (fun W => ref_below d W (by omega))
        obtain ⟨E, hE⟩ : ∃ E, E = str (Lib.decDigits d) := ⟨_, rfl⟩
        have hEs : E.size ≤ 20 := by rw [hE, str_size]; exact decDigits_le20 d (by omega)
        rw [← hE] at H50d
        have HE : Aside0 (AC ++ E = str (acc ++ [UInt8.ofNat (48 + d)])) := ⟨by rw [hE, HAC.out, dec_lt hd10, str_append]⟩
        have HTg2 : Aside0 (TT = acc ++ [UInt8.ofNat (48 + d)] ++ Lib.trimRightB (frD n' q') 48) := ⟨by
          rw [hTg.out, frac_step hLs.out hq, hd, hq', hT]; simp⟩
        have HLs2 : Aside0 (Lasts n' q') := ⟨by rw [hq', hT]; exact hLs.out.next⟩
        have hq'l : q' < 1000000000 := by omega
        clear hT hd hq' hE hq
        go_wp2_with (first | (go_at_call 50; refine (H50d.out _).mono ?_; rintro e w2 ⟨rfl, hb2⟩; have HB2 := Aside0.mk (below_then hB.out hB.out.size hb2)))
        go_roundg n'
        case measure => omega
        case rel => exact ⟨n', q', acc ++ [UInt8.ofNat (48 + d)], Nat.le_refl _, by rw [← HE.out], rfl, hq'l, by simp; omega, HLs2, HTg2, HB2⟩

theorem ref_putsec_calls (t : Int) (w : World) (h0 : -9223372036854775808 ≤ t) (h1 : t ≤ 9223372036854775807) :
    Calls Tryz.prog 25 #[.int .i64 t] w fun e w' => e = .returned (.string (str (putSecS t))) ∧ Below w.heap.size w w' := by
  unfold putSecS
  by_cases h : t < 0
  · rw [if_pos h]
    have := ref_putsec_neg t.natAbs (by omega) (by omega) w
    rw [show -((t.natAbs : Nat) : Int) = t by omega] at this
    exact this
  · rw [if_neg h]
    have := ref_putsec_pos t.natAbs (by omega) (by omega) w
    rw [show ((t.natAbs : Nat) : Int) = t by omega] at this
    exact this
end Go.Proofs.YtkmcbpkciakmeaaGreatDoor.PA

/- The document's Write: the same bytes, or refused; nothing turns but new blocks and the orders drawn. -/
set_option linter.unusedVariables false
set_option linter.unusedSimpArgs false
namespace Go.Proofs.YtkmcbpkciakmeaaGreatDoor.PA
open Go.RowKit Go.Proofs.YtkmcbpkciakmeaaGreatDoorW.PrintWords Go.Proofs.YtkmcbpkciakmeaaGreatDoorW.PrintLast Go.Proofs.YtkmcbpkciakmeaaGreatDoorW.PrintMore

set_option maxHeartbeats 2000000 in
set_option maxRecDepth 100000 in
theorem ref_write_no (A0 : Option Addr) (c0 : Nat) (xs : List S44) (w : World) (hr0 : Kd.C k44 w A0 xs.length xs) (hc0 : xs.length ≤ c0) (hz : ∀ x ∈ xs, x.f1.size ≤ 1073741824 ∧ x.f2.size ≤ 1073741824) (hcan : canS xs = false) :
    Calls Tryz.prog 12 #[.slice A0 xs.length c0] w fun e w' => e = .returned (.tuple #[.slice none 0 0, .bool false]) ∧ Below w.heap.size w w' := by
  have H24 := ref_can_calls A0 c0 xs w hr0 hc0 hz
  rw [hcan] at H24
  have H24 := Aside0.mk H24
  clear hr0 hz hcan
  go_enter Tryz.func12, Tryz.ntmps12
  go_wp2_with (first | (go_at_call 24; refine (H24.out).mono ?_; rintro e w1 ⟨rfl, hb1⟩))
  go_ret2
  exact ⟨rfl, hb1⟩

/-- What the walk knows in a round: the entry's own box, and what has been written. -/
structure RwAt (w : World) (bx : Nat) (x : S44) (v : Value) (l : Bytes) (W : World) : Prop where
  below : Below w.heap.size w W
  lo : w.heap.size ≤ bx
  row : W.heap[bx]? = some (.cells #[.int .i64 x.f0, .string x.f1, .string x.f2, .int .i64 x.f3, .int .i64 x.f4, .string x.f5] 44 (0, 0))
  bin : Bin W w.heap.size v l
  ne : ∀ k, v.ownBlock = some k → k ≠ bx
theorem RwAt.size {w : World} {bx : Nat} {x : S44} {v : Value} {l : Bytes} {W : World} (p : RwAt w bx x v l W) : bx + 1 ≤ W.heap.size := blk_lt p.row
theorem RwAt.then_ {w : World} {bx : Nat} {x : S44} {v : Value} {l : Bytes} {W W' : World} (p : RwAt w bx x v l W) (hb : Below W.heap.size W W') : RwAt w bx x v l W' :=
  ⟨below_then p.below p.below.size hb, p.lo, (hb.block _ p.size).trans p.row, p.bin.below hb, p.ne⟩
theorem RwAt.cells {w : World} {bx : Nat} {x : S44} {v : Value} {l : Bytes} {W : World} (p : RwAt w bx x v l W) : W.cell? ⟨bx, 0, none⟩ = some (.int .i64 x.f0) ∧ W.cell? ⟨bx, 1, none⟩ = some (.string x.f1) ∧ W.cell? ⟨bx, 2, none⟩ = some (.string x.f2) ∧ W.cell? ⟨bx, 3, none⟩ = some (.int .i64 x.f3) ∧ W.cell? ⟨bx, 4, none⟩ = some (.int .i64 x.f4) ∧ W.cell? ⟨bx, 5, none⟩ = some (.string x.f5) := by
  refine ⟨?_, ?_, ?_, ?_, ?_, ?_⟩
  all_goals (rw [cell_of_row W _ _ _ 44 (0, 0) p.row]; rfl)
/-- In the first half what has been written lies in a block elder than the box. -/
theorem RwAt.base {w : World} {bx : Nat} {x : S44} {v : Value} {l : Bytes} {W W' : World} (p : RwAt w bx x v l W) (ho : ∀ k, v.ownBlock = some k → k < bx) (hb : Below (bx + 1) W W') : RwAt w bx x v l W' :=
  ⟨p.below.trans (hb.mono (by have := p.lo; omega)), p.lo, (hb.block _ (by omega)).trans p.row, p.bin.keep hb.size (fun k hk _ => hb.block k (by have := ho k hk; omega)), p.ne⟩
theorem RwAt.grown {w : World} {bx : Nat} {x : S44} {v v' : Value} {l l' : Bytes} {W W' : World} (p : RwAt w bx x v l W) (hv : Bin W' w.heap.size v' l') (hg : W.grownBy W' v.ownBlock) (hat : v'.ownBlock = v.ownBlock ∨ v'.ownBlock = some W.heap.size) : RwAt w bx x v' l' W' := by
  have hs := p.size
  refine ⟨below_grown' p.below p.bin hg, p.lo, (hg.block _ hs fun e => p.ne bx e.symm rfl).trans p.row, hv, fun k hk => ?_⟩
  rcases hat with h | h
  · exact p.ne k (h ▸ hk)
  · rw [h] at hk; injection hk with hk; omega
theorem RwAt.start {w : World} {v : Value} {l : Bytes} {W : World} (x : S44) (hb : Below w.heap.size w W) (hv : Bin W w.heap.size v l) :
    RwAt w W.heap.size x v l (W.alloc (.cells #[.int .i64 x.f0, .string x.f1, .string x.f2, .int .i64 x.f3, .int .i64 x.f4, .string x.f5] 44)) ∧ ∀ k, v.ownBlock = some k → k < W.heap.size :=
  ⟨⟨below_alloc hb _, hb.size, heap_alloc_new W _, hv.below (below_alloc (Below.refl _ _) _), fun k hk => Nat.ne_of_lt (hv.lt k hk)⟩, fun k hk => hv.lt k hk⟩

theorem easy_not {t : Int} : (t < 0 ∨ Int.tmod t 1000000000 ≠ 0 ∨ Int.tdiv t 1000000000 > 8589934591) ↔ easy t = false := by
  unfold easy
  by_cases h : t < 0
  · rw [decide_eq_false (show ¬ 0 ≤ t by omega)]; simp [h]
  · have e1 : Int.tmod t 1000000000 = t % 1000000000 := Int.tmod_eq_emod_of_nonneg (by omega)
    have e2 : Int.tdiv t 1000000000 = t / 1000000000 := Int.tdiv_eq_ediv_of_nonneg (by omega)
    rw [e1, e2, decide_eq_true (show 0 ≤ t by omega)]
    simp only [Bool.and_true, Bool.and_eq_false_iff, decide_eq_false_iff_not]
    omega

set_option maxHeartbeats 8000000 in
set_option maxRecDepth 100000 in
theorem ref_write_yes (A0 : Option Addr) (c0 : Nat) (xs : List S44) (w : World) (hr0 : Kd.C k44 w A0 xs.length xs) (hc0 : xs.length ≤ c0) (hz : ∀ x ∈ xs, x.f1.size ≤ 1073741824 ∧ x.f2.size ≤ 1073741824) (hcan : canS xs = true) :
    Calls Tryz.prog 12 #[.slice A0 xs.length c0] w fun e w' => ∃ v, e = .returned (.tuple #[v, .bool true]) ∧ Bin w' w.heap.size v (writeS xs) ∧ Below w.heap.size w w' := by
  obtain ⟨hl, hfine⟩ := can_fine hcan
  have H24 := ref_can_calls A0 c0 xs w hr0 hc0 hz
  rw [hcan] at H24
  have H24 := Aside0.mk H24
  have HC := Aside0.mk hr0
  have HF := Aside0.mk hfine
  have hbl : ∀ k, (bodyS (xs.take k)).length ≤ 1060000000 := fun k => by
    have := bodyS_len (xs.take k) (fun x hx => hfine x (List.mem_of_mem_take hx))
    rw [List.length_take] at this
    have h2 : min k xs.length * 1060000 ≤ 1000 * 1060000 := Nat.mul_le_mul_right _ (by omega)
    omega
  have HL := Aside0.mk hbl
  clear hr0 hz hcan hfine hbl
  go_enter Tryz.func12, Tryz.ntmps12
  go_wp2_with (first | (go_at_call 24; refine (H24.out).mono ?_; rintro e w1 ⟨rfl, hb1⟩))
  go_loopw [4, 5] (fun v4 v5 wr => ∃ k : Nat, v5 = .int .i64 k ∧ Aside0 (WsAt w xs v4 k wr)) (fun _ v5 _ => xs.length - (intOf v5).toNat)
  case atStart => exact ⟨0, rfl, ⟨⟨by omega, hb1, Bin.nil _ _⟩⟩⟩
  case round =>
    obtain ⟨k, rfl, hA⟩ := hrel
    by_cases hk : k < xs.length
    · obtain ⟨ad, eA, c0_, c1_, c2_, c3_, c4_, c5_⟩ := at_T44 (Kd.C_below HC.out hA.out.below) (k : Int) (by omega) (by omega)
      have hrd : rd_T44 xs (k : Int) = xs.getD k z44 := rfl
      rw [hrd, Int.toNat_natCast] at c0_ c1_ c2_ c3_ c4_ c5_
      have hmem : xs.getD k z44 ∈ xs := by rw [List.getD_eq_getElem?_getD, List.getElem?_eq_getElem hk]; exact List.getElem_mem hk
      obtain ⟨x, hx⟩ : ∃ x, xs.getD k z44 = x := ⟨_, rfl⟩
      rw [hx] at c0_ c1_ c2_ c3_ c4_ c5_ hmem
      have HX := Aside0.mk hx
      have hfx := HF.out x hmem
      obtain ⟨f1, f2, f5, ⟨f3a, f3b⟩, ⟨f4a, f4b⟩, f0, _⟩ := hfx
      have hwl := writtenS_len (HF.out x hmem)
      have hbk := HL.out k
      obtain ⟨hP0, hO0⟩ := RwAt.start x hA.out.below hA.out.bin
      obtain ⟨bx, hbx⟩ : ∃ bx, bx = wr.heap.size := ⟨_, rfl⟩
      have P0 := Aside0.mk hP0
      have O0 := Aside0.mk hO0
      obtain ⟨bd, hbd⟩ : ∃ bd, bd = bodyS (xs.take k) := ⟨_, rfl⟩
      rw [← hbd] at P0 hbk
      have HBD := Aside0.mk hbd
      clear hrd hx hmem hP0 hO0 hbd
      subst eA
      obtain ⟨x0, x1, x2, x3, x4, x5⟩ := x
      dsimp only at c0_ c1_ c2_ c3_ c4_ c5_ f1 f2 f5 f3a f3b f4a f4b f0 P0
      obtain ⟨m, hm⟩ : ∃ m : Nat, x3 = m := ⟨x3.toNat, by omega⟩
      subst hm
      have HXB := Aside0.mk hbx
      go_upto_if 27 with fail
      rw [← hbx] at P0 O0 ⊢
      clear hbx c0_ c1_ c2_ c3_ c4_ c5_
      generalize wr.alloc (Obj.cells #[Value.int IntKind.i64 x0, Value.string x1, Value.string x2, Value.int IntKind.i64 (m : Int), Value.int IntKind.i64 x4, Value.string x5] 44) = W0 at P0 ⊢
      have e1 : W0.cell? ⟨bx, 1, none⟩ = some (.string x1) := P0.out.cells.2.1
      go_cut [7] (fun s7 wx => Aside0 (RwAt w bx (⟨x0, x1, x2, (m : Int), x4, x5⟩ : S44) u4 bd wx) ∧ Aside0 (Kd.R k39 39 wx (bx + 1) (fun _ => True) s7 (recs1 (⟨x0, x1, x2, (m : Int), x4, x5⟩ : S44))))
      case first =>
        by_cases hp : 100 < x1.size
        · have HR : Aside0 (recs1 (⟨x0, x1, x2, (m : Int), x4, x5⟩ : S44) = [(str bPath, x1)]) := ⟨if_pos hp⟩
          have hpi : (100 : Int) < (x1.size : Int) := by omega
          go_wp2_with (first | ((with_reducible refine gate_builtin (b := .append) (xs := #[.tmp 28, .tmp 32]) rfl ?_); at_builtin; refine Kd.R_append k39 (w0 := W0) (bx + 1) rfl (.tmp 28) (.tmp 32) 34 39 (.agg #[.string ⟨#[]⟩, .string ⟨#[]⟩]) 32 rfl under34 info39 rfl (by decide) (by omega) (.slice none 0 0) [] (str bPath, x1) [.string (str bPath), .string x1] (fun _ => True) (fun _ => False) rfl rfl ?aP (fun _ hk => hk.elim) ?aF ?aO ?aB ?aS ?aL ?_; (case aP => exact k39_mkM _ _ _ (str bPath, x1)); (case aB => exact Below.refl _ _); (case aF => exact (fun _ _ => trivial)); (case aO => exact Kd.R_nil _ _ _ _ _); (case aS => exact P0.out.size); (case aL => decide); intro v5 w5 ho hb5 hg hat; have hO5 := Aside0.mk ho; clear ho hg hat))
          go_meet
          exact ⟨⟨P0.out.base O0.out hb5⟩, by rw [HR.out]; exact hO5⟩
        · have HR : Aside0 (recs1 (⟨x0, x1, x2, (m : Int), x4, x5⟩ : S44) = []) := ⟨if_neg hp⟩
          have hpi : ¬ ((100 : Int) < (x1.size : Int)) := by omega
          go_wp2_with fail
          go_meet
          exact ⟨P0, by rw [HR.out]; exact ⟨Kd.R_nil _ _ _ _ _⟩⟩
      case rest =>
        obtain ⟨P1, R1⟩ := hcut
        have e2 : wc.cell? ⟨bx, 2, none⟩ = some (.string x2) := P1.out.cells.2.2.1
        clear e1 P0
        go_upto_if 37 with fail
        go_cut [7] (fun s7 wx => Aside0 (RwAt w bx (⟨x0, x1, x2, (m : Int), x4, x5⟩ : S44) u4 bd wx) ∧ Aside0 (Kd.R k39 39 wx (bx + 1) (fun _ => True) s7 (recs2 (⟨x0, x1, x2, (m : Int), x4, x5⟩ : S44))))
        case first =>
          by_cases hp : 100 < x2.size
          · have HR : Aside0 (recs2 (⟨x0, x1, x2, (m : Int), x4, x5⟩ : S44) = recs1 (⟨x0, x1, x2, (m : Int), x4, x5⟩ : S44) ++ [(str bLink, x2)]) := ⟨if_pos hp⟩
            have hpi : (100 : Int) < (x2.size : Int) := by omega
            have hl1 : (recs1 (⟨x0, x1, x2, (m : Int), x4, x5⟩ : S44)).length ≤ 1 := by unfold recs1; split <;> simp
            go_wp2_with (first | ((with_reducible refine gate_builtin (b := .append) (xs := #[.tmp 38, .tmp 42]) rfl ?_); at_builtin; refine Kd.R_append k39 (w0 := wc) (bx + 1) rfl (.tmp 38) (.tmp 42) 34 39 (.agg #[.string ⟨#[]⟩, .string ⟨#[]⟩]) 32 rfl under34 info39 rfl (by decide) (by omega) u7 (recs1 (⟨x0, x1, x2, (m : Int), x4, x5⟩ : S44)) (str bLink, x2) [.string (str bLink), .string x2] (fun _ => True) (fun _ => False) rfl rfl ?aP (fun _ hk => hk.elim) ?aF ?aO ?aB ?aS ?aL ?_; (case aP => exact k39_mkM _ _ _ (str bLink, x2)); (case aB => exact Below.refl _ _); (case aF => exact (fun _ _ => trivial)); (case aO => exact R1.out); (case aS => exact P1.out.size); (case aL => omega); intro v5 w5 ho hb5 hg hat; have hO5 := Aside0.mk ho; clear ho hg hat))
            go_meet
            exact ⟨⟨P1.out.base O0.out hb5⟩, by rw [HR.out]; exact hO5⟩
          · have HR : Aside0 (recs2 (⟨x0, x1, x2, (m : Int), x4, x5⟩ : S44) = recs1 (⟨x0, x1, x2, (m : Int), x4, x5⟩ : S44)) := ⟨if_neg hp⟩
            have hpi : ¬ ((100 : Int) < (x2.size : Int)) := by omega
            go_wp2_with fail
            go_meet
            exact ⟨P1, by rw [HR.out]; exact R1⟩
        case rest =>
          obtain ⟨P2, R2⟩ := hcut
          have e4 : wc.cell? ⟨bx, 4, none⟩ = some (.int .i64 x4) := P2.out.cells.2.2.2.2.1
          clear e2 P1 R1
          go_upto_region 14 with fail
          go_cut [59] (fun s59 wx => wx = wc ∧ s59 = .bool (!easy x4))
          case first =>
            by_cases a1 : x4 < 0
            · have HE : Aside0 (easy x4 = false) := ⟨easy_not.1 (.inl a1)⟩
              have t1 : decide (x4 < 0) = true := decide_eq_true a1
              go_wp2_with fail
              all_goals go_meet
              all_goals exact ⟨rfl, by rw [HE.out]; rfl⟩
            · have t1 : decide (x4 < 0) = false := decide_eq_false a1
              have em : Int.tmod x4 1000000000 = x4 % 1000000000 := Int.tmod_eq_emod_of_nonneg (by omega)
              have EM := Aside0.mk em
              clear em
              by_cases a2 : Int.tmod x4 1000000000 = 0
              · have t2 : (Int.tmod x4 1000000000 != 0) = false := by rw [bne_eq_false_iff_eq]; exact a2
                have a2m : x4 % 1000000000 = 0 := by rw [← EM.out]; exact a2
                by_cases a3 : Int.tdiv x4 1000000000 > 8589934591
                · have HE : Aside0 (easy x4 = false) := ⟨easy_not.1 (.inr (.inr a3))⟩
                  have t3 : decide (Int.tdiv x4 1000000000 > 8589934591) = true := decide_eq_true a3
                  go_wp2_with fail
                  all_goals go_meet
                  all_goals exact ⟨rfl, by rw [HE.out]; rfl⟩
                · have HE : Aside0 (easy x4 = true) := ⟨by
                    cases h : easy x4 with
                    | true => rfl
                    | false => rcases easy_not.2 h with h | h | h
                               · exact absurd h a1
                               · exact absurd a2 h
                               · exact absurd h a3⟩
                  have t3 : decide (Int.tdiv x4 1000000000 > 8589934591) = false := decide_eq_false a3
                  have t3n : ¬ (8589934591 < Int.tdiv x4 1000000000) := a3
                  go_wp2_with fail
                  all_goals go_meet
                  all_goals exact ⟨rfl, by rw [HE.out]; rfl⟩
              · have t2 : (Int.tmod x4 1000000000 != 0) = true := by rw [bne_iff_ne]; exact a2
                have a2m : ¬ x4 % 1000000000 = 0 := by rw [← EM.out]; exact a2
                have HE : Aside0 (easy x4 = false) := ⟨easy_not.1 (.inr (.inl a2))⟩
                go_wp2_with fail
                all_goals go_meet
                all_goals exact ⟨rfl, by rw [HE.out]; rfl⟩
          case rest =>
            obtain ⟨rfl, rfl⟩ := hcut
            clear e4
            go_upto_if 59 with fail
            go_cut [7, 8] (fun s7 s8 wx => Aside0 (RwAt w bx (⟨x0, x1, x2, (m : Int), x4, x5⟩ : S44) u4 bd wx) ∧ Aside0 (Kd.R k39 39 wx (bx + 1) (fun _ => True) s7 (recs3 (⟨x0, x1, x2, (m : Int), x4, x5⟩ : S44))) ∧ s8 = .int .i64 (secsOf x4))
            case first =>
              have e4 : wc.cell? ⟨bx, 4, none⟩ = some (.int .i64 x4) := P2.out.cells.2.2.2.2.1
              have hl2 : (recs2 (⟨x0, x1, x2, (m : Int), x4, x5⟩ : S44)).length ≤ 2 := by unfold recs2 recs1; split <;> split <;> simp
              cases he : easy x4 with
              | true =>
                have HR : Aside0 (recs3 (⟨x0, x1, x2, (m : Int), x4, x5⟩ : S44) = recs2 (⟨x0, x1, x2, (m : Int), x4, x5⟩ : S44)) := ⟨if_pos he⟩
                have hpos : 0 ≤ x4 := by
                  unfold easy at he
                  simp only [Bool.and_eq_true, decide_eq_true_eq] at he
                  exact he.1.2
                have hn : Aside0 (Int.tdiv x4 1000000000 = ((secsOf x4 : Nat) : Int)) := ⟨by
                  rw [Int.tdiv_eq_ediv_of_nonneg hpos]
                  unfold secsOf
                  rw [he, if_pos rfl]
                  omega⟩
                clear he hpos
                go_wp2_with fail
                go_meet
                exact ⟨P2, by rw [HR.out]; exact R2, by rw [hn.out]⟩
              | false =>
                have HR : Aside0 (recs3 (⟨x0, x1, x2, (m : Int), x4, x5⟩ : S44) = recs2 (⟨x0, x1, x2, (m : Int), x4, x5⟩ : S44) ++ [(str bTime, str (putSecS x4))]) := ⟨if_neg (by rw [he]; simp)⟩
                have hs0 : Aside0 (secsOf x4 = 0) := ⟨by unfold secsOf; rw [he]; rfl⟩
                have H25 := Aside0.mk (ref_putsec_calls x4 wc (by omega) (by omega))
                clear he
                go_wp2_with (first | (go_at_call 25; refine (H25.out).mono ?_; rintro e w4 ⟨rfl, hb4⟩; have P4 := Aside0.mk (P2.out.then_ hb4)) | ((with_reducible refine gate_builtin (b := .append) (xs := #[.tmp 60, .tmp 65]) rfl ?_); at_builtin; refine Kd.R_append k39 (w0 := w4) (bx + 1) rfl (.tmp 60) (.tmp 65) 34 39 (.agg #[.string ⟨#[]⟩, .string ⟨#[]⟩]) 32 rfl under34 info39 rfl (by decide) (by omega) u7 (recs2 (⟨x0, x1, x2, (m : Int), x4, x5⟩ : S44)) (str bTime, str (putSecS x4)) [.string (str bTime), .string (str (putSecS x4))] (fun _ => True) (fun _ => False) rfl rfl ?aP (fun _ hk => hk.elim) ?aF ?aO ?aB ?aS ?aL ?_; (case aP => exact k39_mkM _ _ _ (str bTime, str (putSecS x4))); (case aB => exact Below.refl _ _); (case aF => exact (fun _ _ => trivial)); (case aO => exact (Kd.R_below R2.out hb4)); (case aS => exact P4.out.size); (case aL => omega); intro v5 w5 ho hb5 hg hat; have hO5 := Aside0.mk ho; clear ho hg hat))
                go_meet
                exact ⟨⟨P4.out.base O0.out hb5⟩, by rw [HR.out]; exact hO5, by rw [hs0.out]; rfl⟩
            case rest =>
              obtain ⟨P3, R3, rfl⟩ := hcut
              clear P2 R2 O0
              obtain ⟨A, c, hv, hle, hC⟩ := Kd.R_reads R3.out
              subst hv
              obtain ⟨rs, hrs⟩ : ∃ rs, rs = recs3 (⟨x0, x1, x2, (m : Int), x4, x5⟩ : S44) := ⟨_, rfl⟩
              have hrl : rs.length ≤ 3 := by rw [hrs]; exact recs3_len _
              have hrz : ∀ y ∈ rs, y.1.size + y.2.size ≤ 300 := by rw [hrs]; exact recs3_size _ f1 f2 (by show -9223372036854775808 ≤ x4; omega) (by show x4 ≤ 9223372036854775807; omega)
              have hpx : Aside0 (paxS (⟨x0, x1, x2, (m : Int), x4, x5⟩ : S44) = if rs = [] then [] else hdS (hdP (recsS rs).length) ++ fillS (recsS rs)) := ⟨by rw [hrs]; rfl⟩
              rw [← hrs] at hC hle
              rw [← hrs]
              clear hrs R3
              have HCR := Aside0.mk hC
              clear hC
              have hpl : (paxS (⟨x0, x1, x2, (m : Int), x4, x5⟩ : S44)).length ≤ 4096 := paxS_len (⟨x0, x1, x2, (m : Int), x4, x5⟩ : S44) f1 f2 (by show -9223372036854775808 ≤ x4; omega) (by show x4 ≤ 9223372036854775807; omega)
              go_upto_if 69 with fail
              go_cut [4, 9] (fun s4 s9 wx => Aside0 (RwAt w bx (⟨x0, x1, x2, (m : Int), x4, x5⟩ : S44) s4 (bd ++ paxS (⟨x0, x1, x2, (m : Int), x4, x5⟩ : S44)) wx))
              case first =>
                by_cases hr0 : rs = []
                · have hpe : Aside0 (paxS (⟨x0, x1, x2, (m : Int), x4, x5⟩ : S44) = []) := ⟨by rw [hpx.out, if_pos hr0]⟩
                  have hl0 : ¬ ((0 : Int) < (rs.length : Int)) := by rw [hr0]; simp
                  clear hr0
                  go_wp2_with fail
                  go_meet
                  rw [hpe.out, List.append_nil]
                  exact P3
                · have hl0 : (0 : Int) < (rs.length : Int) := by have := List.length_pos_iff.2 hr0; omega
                  have hrl2 := recsS_le 300 (by omega) rs hrz
                  obtain ⟨S, hS⟩ : ∃ S, S = str (recsS rs) := ⟨_, rfl⟩
                  have hSz : S.size ≤ 1000 := by
                    rw [hS, str_size]
                    have : rs.length * (300 + 23) ≤ 3 * (300 + 23) := Nat.mul_le_mul_right _ hrl
                    omega
                  have hpe : Aside0 (paxS (⟨x0, x1, x2, (m : Int), x4, x5⟩ : S44) = hdS (hdP S.size) ++ fillS S.data.toList) := ⟨by rw [hpx.out, if_neg hr0, hS, str_size, data_str]⟩
                  have H17 : Calls Tryz.prog 17 #[.slice A rs.length c] wc fun e w' => e = .returned (.string S) ∧ Below wc.heap.size wc w' := by
                    rw [hS]
                    exact ref_records_calls A c rs wc HCR.out hle (by omega) (fun y hy => Nat.le_trans (hrz y hy) (by omega))
                  have H17 := Aside0.mk H17
                  have hft := hdP_fits S.size (by omega)
                  have hdl : (hdS (hdP S.size)).length = 512 := hdS_len _ hft
                  have H26 := Aside0.mk (fun W => ref_header_calls (hdP S.size) W hft)
                  have H27 := Aside0.mk (fun W => ref_filled_calls S W (by omega))
                  have hfl := fillS_le S.data.toList
                  rw [data_length] at hfl
                  obtain ⟨hh, hhe⟩ : ∃ hh, hh = hdS (hdP S.size) := ⟨_, rfl⟩
                  rw [← hhe] at H26 hdl
                  simp only [hdP] at H26
                  have HHE := Aside0.mk hhe
                  clear hS hr0 hrl2 hft hhe
                  go_wp2_with (first
                    | (go_at_call 17; refine (H17.out).mono ?_; rintro e w4 ⟨rfl, hb4⟩; have P4 := Aside0.mk (P3.out.then_ hb4))
                    | (go_at_call 26; refine (H26.out _).mono ?_; rintro e w5 ⟨g5, rfl, hg5, hr5, hb5⟩; have P5 := Aside0.mk (P4.out.then_ hb5); have Q5 := Aside0.mk (row_bin512 hr5 (Nat.zero_le _) hdl).reads)
                    | ((with_reducible refine gate_builtin (b := .append) (xs := #[.tmp 72, .tmp 75]) rfl ?_); at_builtin; refine wpList_append_bin rfl (.tmp 72) (.tmp 75) rfl w.heap.size u4 (.slice (some ⟨g5, 0, none⟩) 512 512) bd hh rfl rfl P5.out.bin Q5.out (by omega) P5.out.below.size ?_; intro v7 w7 hv7 hg7 hat7; have P7 := Aside0.mk (P5.out.grown hv7 hg7 hat7); clear hv7 hg7 hat7)
                    | (go_at_call 27; refine (H27.out _).mono ?_; rintro e w6 ⟨v6, rfl, hv6, hb6⟩; have P8 := Aside0.mk (P7.out.then_ hb6); have Q6 := Aside0.mk hv6.reads)
                    | ((with_reducible refine gate_builtin (b := .append) (xs := #[.tmp 77, .tmp 79]) rfl ?_); at_builtin; refine wpList_append_bin rfl (.tmp 77) (.tmp 79) rfl w.heap.size v7 v6 (bd ++ hh) (fillS S.data.toList) rfl rfl P8.out.bin Q6.out (by rw [List.length_append]; omega) P8.out.below.size ?_; intro v9 w9 hv9 hg9 hat9; have P9 := Aside0.mk (P8.out.grown hv9 hg9 hat9); clear hv9 hg9 hat9))
                  go_meet
                  rw [hpe.out, ← HHE.out, ← List.append_assoc]
                  exact P9
              case rest =>
                have P4 := hcut
                clear P3 HCR hcut hpx
                obtain ⟨px, hpxe⟩ : ∃ px, px = paxS (⟨x0, x1, x2, (m : Int), x4, x5⟩ : S44) := ⟨_, rfl⟩
                rw [← hpxe] at P4 hpl
                have HPX := Aside0.mk hpxe
                clear hpxe
                go_upto_region 21 with fail
                go_cut [10] (fun s10 wx => Aside0 (RwAt w bx (⟨x0, x1, x2, (m : Int), x4, x5⟩ : S44) u4 (bd ++ px) wx) ∧ s10 = .int .u8 (kindB x0).toNat)
                case first =>
                  have hwb := P4.out.size
                  have e0 : ∀ o, (wc.alloc o).cell? ⟨bx, 0, none⟩ = some (.int .i64 x0) := fun o => (World.cell?_of_block (heap_alloc_old wc o (by show bx < wc.heap.size; omega))).trans P4.out.cells.1
                  have P5 := Aside0.mk (P4.out.then_ (below_alloc (Below.refl _ wc) (.cells #[.int .u8 0, .int .u8 48, .int .u8 53, .int .u8 50] 5)))
                  rcases f0 with rfl | rfl | rfl
                  · go_wp2_with fail
                    go_meet
                    exact ⟨P5, rfl⟩
                  · go_wp2_with fail
                    go_meet
                    exact ⟨P5, rfl⟩
                  · go_wp2_with fail
                    go_meet
                    exact ⟨P5, rfl⟩
                case rest =>
                  obtain ⟨P5, rfl⟩ := hcut
                  clear P4
                  have hft : (⟨x1, x2, m, x5.size, secsOf x4, kindB x0⟩ : Hd).fits := ⟨octL_fit8 (show m < 2097152 by omega), octL_fit12 (show x5.size < 8589934592 by omega), octL_fit12 (secsOf_lt _), show m ≤ 4611686018427387904 by omega, show x5.size ≤ 4611686018427387904 by omega, show secsOf x4 ≤ 4611686018427387904 by have := secsOf_lt x4; omega⟩
                  have hdl : (hdS (⟨x1, x2, m, x5.size, secsOf x4, kindB x0⟩ : Hd)).length = 512 := hdS_len _ hft
                  have H26 := Aside0.mk (fun W => ref_header_calls (⟨x1, x2, m, x5.size, secsOf x4, kindB x0⟩ : Hd) W hft)
                  have H27 := Aside0.mk (fun W => ref_filled_calls x5 W (by omega))
                  have hfl := fillS_le x5.data.toList
                  rw [data_length] at hfl
                  obtain ⟨hh, hhe⟩ : ∃ hh, hh = hdS (⟨x1, x2, m, x5.size, secsOf x4, kindB x0⟩ : Hd) := ⟨_, rfl⟩
                  rw [← hhe] at H26 hdl
                  dsimp only at H26
                  have HHE := Aside0.mk hhe
                  have HW : Aside0 (bodyS (xs.take (k + 1)) = bd ++ px ++ hh ++ fillS x5.data.toList) := ⟨by rw [bodyS_take xs k hk, HX.out, ← HBD.out, HPX.out, hhe]; unfold writtenS; simp only [List.append_assoc]; rfl⟩
                  obtain ⟨d0, d1, d2, d3, d4, d5⟩ := P5.out.cells
                  dsimp only at d0 d1 d2 d3 d4 d5
                  obtain ⟨ks, hks⟩ : ∃ ks, ks = secsOf x4 := ⟨_, rfl⟩
                  rw [← hks] at H26 ⊢
                  clear hft hhe hks
                  go_wp2_with (first
                    | (go_at_call 26; refine (H26.out _).mono ?_; rintro e w5 ⟨g5, rfl, hg5, hr5, hb5⟩; have P6 := Aside0.mk (P5.out.then_ hb5); have Q6 := Aside0.mk (row_bin512 hr5 (Nat.zero_le _) hdl).reads)
                    | ((with_reducible refine gate_builtin (b := .append) (xs := #[.tmp 86, .tmp 98]) rfl ?_); at_builtin; refine wpList_append_bin rfl (.tmp 86) (.tmp 98) rfl w.heap.size u4 (.slice (some ⟨g5, 0, none⟩) 512 512) (bd ++ px) hh rfl rfl P6.out.bin Q6.out (by rw [List.length_append]; omega) P6.out.below.size ?_; intro v7 w7 hv7 hg7 hat7; have P7 := Aside0.mk (P6.out.grown hv7 hg7 hat7); obtain ⟨_, _, _, _, _, d5⟩ := P7.out.cells; dsimp only at d5; clear hv7 hg7 hat7)
                    | (go_at_call 27; refine (H27.out _).mono ?_; rintro e w6 ⟨v6, rfl, hv6, hb6⟩; have P8 := Aside0.mk (P7.out.then_ hb6); have Q8 := Aside0.mk hv6.reads)
                    | ((with_reducible refine gate_builtin (b := .append) (xs := #[.tmp 100, .tmp 103]) rfl ?_); at_builtin; refine wpList_append_bin rfl (.tmp 100) (.tmp 103) rfl w.heap.size v7 v6 (bd ++ px ++ hh) (fillS x5.data.toList) rfl rfl P8.out.bin Q8.out (by rw [List.length_append, List.length_append]; omega) P8.out.below.size ?_; intro v9 w9 hv9 hg9 hat9; have P9 := Aside0.mk (P8.out.grown hv9 hg9 hat9); clear hv9 hg9 hat9))
                  go_roundw
                  case rel => exact ⟨k + 1, rfl, ⟨⟨hk, P9.out.below, by rw [HW.out]; exact P9.out.bin⟩⟩⟩
                  case measure => simp [intOf]; omega
    · have HE : Aside0 (xs.take k = xs) := ⟨List.take_of_length_le (by omega)⟩
      have hkl := HL.out k
      go_wp2_with (first | ((with_reducible refine gate_builtin (b := .append) (xs := #[.tmp 105, .const (.int .i64 1024)]) rfl ?_); at_builtin; refine wpList_append_zeros_bin rfl (.tmp 105) (.const (.int .i64 1024)) rfl w.heap.size u4 (bodyS (xs.take k)) 1024 rfl rfl hA.out.bin (by omega) hA.out.below.size ?_; intro v7 w7 hv7 hg7 hat7))
      go_ret2
      exact ⟨v7, rfl, by rw [HE.out] at hv7; exact hv7, below_grown' hA.out.below hA.out.bin hg7⟩
end Go.Proofs.YtkmcbpkciakmeaaGreatDoor.PA
