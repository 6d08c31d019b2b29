/- A header that was written is parsed. -/
import Derived.Test.YtkmcbpkciakmeaaGreatDoorMwrite
import Derived.Deep.RegionHeld3

/- tarfmt.parsed, of a header that was written; new blocks alone. -/
set_option linter.unusedVariables false
set_option linter.unusedSimpArgs false
namespace Go.Proofs.YtkmcbpkciakmeaaGreatDoor.PA
open Go.RowKit Go.Proofs.YtkmcbpkciakmeaaGreatDoorW.PrintWords Go.Proofs.YtkmcbpkciakmeaaGreatDoorW.PrintLast Go.Proofs.YtkmcbpkciakmeaaGreatDoorW.PrintMore

theorem RB.mid {w : World} {ad : Addr} {n c : Nat} {l : Bytes} (h : RB w (.slice (some ad) n c) l) (lo hi : Nat) (h1 : lo < hi) (h2 : hi ≤ l.length) : RB w (.slice (some (ad.add lo)) (hi - lo) (c - lo)) (seg l lo hi) := by
  obtain ⟨A', c', hv, hc1, hc2, hc3⟩ := h
  injection hv with e1 e2 e3
  subst e1 e2 e3
  have hl := seg_len (a := lo) h2
  refine ⟨some (ad.add lo), c - lo, by rw [hl], by omega, by omega, fun _ => ?_⟩
  obtain ⟨ad', hA, hc⟩ := hc3 (by omega)
  injection hA with hA
  subst hA
  refine ⟨_, rfl, fun j u hu => ?_⟩
  rw [add_add]
  refine hc (lo + j) u ?_
  unfold seg at hu
  rw [← byteCells_drop, ← byteCells_take, List.getElem?_drop, List.getElem?_take] at hu
  split at hu
  · exact hu
  · cases hu
theorem run_mid (ad : Addr) (c lo hi : Nat) (h0 : lo ≤ hi) (h1 : hi ≤ 512) (h2 : lo < 512) (hc : 512 ≤ c) (W : World) : (Instr.slice 25 (.slice (some ad) 512 c) (some (.int .i64 lo)) (some (.int .i64 hi)) none).run Tryz.prog W = .ok (.slice (some (ad.add lo)) (hi - lo) (c - lo)) W := by
  obtain ⟨i, hi5, hz, hs1, hs2⟩ := info5_parts
  have := cut_mid 25 5 .i64 .i64 Tryz.underlying25 hi5 1 hs1 (some ad) 512 c (lo : Int) (hi : Int) (by omega) (by omega) (by omega) hc W
  rw [this]
  rw [if_neg (by simp; omega)]
  simp

/-- What the walk keeps: the answer's cell, the four numbers. -/
structure PsAt (w0 : World) (a0 a1 a2 a3 : Nat) (W : World) : Prop where
  below : Below w0.heap.size w0 W
  bx : W.heap[w0.heap.size]? = some (.cells #[.string ⟨#[]⟩, .string ⟨#[]⟩, .int .i64 0, .int .i64 0, .int .i64 0, .int .u8 0] 80 (0, 0))
  g : W.heap[w0.heap.size + 1]? = some (.cells #[.int .i64 a0, .int .i64 a1, .int .i64 a2, .int .i64 a3] 118 (0, 0))
theorem PsAt.then_ {w0 : World} {a0 a1 a2 a3 : Nat} {W W' : World} (p : PsAt w0 a0 a1 a2 a3 W) (hb : Below W.heap.size W W') : PsAt w0 a0 a1 a2 a3 W' := by
  have hg := blk_lt p.g
  exact ⟨below_then p.below p.below.size hb, (hb.block _ (by omega)).trans p.bx, (hb.block _ hg).trans p.g⟩
theorem PsAt.set0 {w0 : World} {a0 a1 a2 a3 : Nat} {W : World} (p : PsAt w0 a0 a1 a2 a3 W) (b : Nat) : PsAt w0 b a1 a2 a3 (W.setCell ⟨w0.heap.size + 1, 0, none⟩ (.int .i64 b)) := by
  have hrow := p.g
  refine ⟨p.below.setCell (by simp) _, (Below.heap_setCell _ _ _ _ (by simp)).trans p.bx, ?_⟩
  simp only [World.setCell, Array.getElem?_modify, hrow, if_true, Option.map_some]
  rfl
theorem PsAt.set1 {w0 : World} {a0 a1 a2 a3 : Nat} {W : World} (p : PsAt w0 a0 a1 a2 a3 W) (b : Nat) : PsAt w0 a0 b a2 a3 (W.setCell ⟨w0.heap.size + 1, 1, none⟩ (.int .i64 b)) := by
  have hrow := p.g
  refine ⟨p.below.setCell (by simp) _, (Below.heap_setCell _ _ _ _ (by simp)).trans p.bx, ?_⟩
  simp only [World.setCell, Array.getElem?_modify, hrow, if_true, Option.map_some]
  rfl
theorem PsAt.set2 {w0 : World} {a0 a1 a2 a3 : Nat} {W : World} (p : PsAt w0 a0 a1 a2 a3 W) (b : Nat) : PsAt w0 a0 a1 b a3 (W.setCell ⟨w0.heap.size + 1, 2, none⟩ (.int .i64 b)) := by
  have hrow := p.g
  refine ⟨p.below.setCell (by simp) _, (Below.heap_setCell _ _ _ _ (by simp)).trans p.bx, ?_⟩
  simp only [World.setCell, Array.getElem?_modify, hrow, if_true, Option.map_some]
  rfl
theorem PsAt.set3 {w0 : World} {a0 a1 a2 a3 : Nat} {W : World} (p : PsAt w0 a0 a1 a2 a3 W) (b : Nat) : PsAt w0 a0 a1 a2 b (W.setCell ⟨w0.heap.size + 1, 3, none⟩ (.int .i64 b)) := by
  have hrow := p.g
  refine ⟨p.below.setCell (by simp) _, (Below.heap_setCell _ _ _ _ (by simp)).trans p.bx, ?_⟩
  simp only [World.setCell, Array.getElem?_modify, hrow, if_true, Option.map_some]
  rfl
theorem psat_new (w : World) (o : Obj) (o2 : Obj) : ((w.alloc o).alloc o2).heap[w.heap.size + 1]? = some o2 := by
  have := heap_alloc_new (w.alloc o) o2
  rwa [show (w.alloc o).heap.size = w.heap.size + 1 by simp] at this
theorem six_set {W : World} {g t : Nat} {a0 a1 a2 a3 a4 a5 v0 v1 v2 v3 v4 v5 : Value} (h : W.heap[g]? = some (.cells #[a0, a1, a2, a3, a4, a5] t (0, 0))) :
    ((((((W.setCell ⟨g, 0, none⟩ v0).setCell ⟨g, 1, none⟩ v1).setCell ⟨g, 2, none⟩ v2).setCell ⟨g, 3, none⟩ v3).setCell ⟨g, 4, none⟩ v4).setCell ⟨g, 5, none⟩ v5).heap[g]? = some (.cells #[v0, v1, v2, v3, v4, v5] t (0, 0)) := by
  simp only [World.setCell, Array.getElem?_modify, h, if_true, Option.map_some]
  rfl
theorem desc80 : ∃ d, Tryz.prog.underlying 80 = some d ∧ (match d with | .struct _ | .array _ _ => true | _ => false) = true := by
  have h : (Tryz.prog.underlying 80).map (fun d => match d with | .struct _ | .array _ _ => true | _ => false) = some true := by kernel_rfl
  cases hd : Tryz.prog.underlying 80 with
  | none => rw [hd] at h; cases h
  | some d => rw [hd] at h; exact ⟨d, rfl, by simpa using h⟩
theorem info80 : (Tryz.prog.info? 80).map (·.size) = some 6 := by kernel_rfl
def psS (h : Hd) (k j : Nat) : Nat := if k ≤ j then 0 else match j with | 0 => h.mode | 1 => h.size | 2 => h.time | _ => sumS (hdS h)
theorem under120 : Tryz.prog.underlying 120 = some (.array 4 119) := by kernel_rfl
theorem info119 : (Tryz.prog.info? 119).map (fun i => i.size) = some 2 := by kernel_rfl
theorem desc119 : Tryz.prog.underlying 119 = some (.array 2 3) := by kernel_rfl
theorem index120 (a0 a1 a2 a3 a4 a5 a6 a7 : Value) (W : World) : (Instr.index 120 (.agg #[a0, a1, a2, a3, a4, a5, a6, a7]) (.int .i64 0)).run Tryz.prog W = .ok (.agg #[a0, a1]) W ∧ (Instr.index 120 (.agg #[a0, a1, a2, a3, a4, a5, a6, a7]) (.int .i64 1)).run Tryz.prog W = .ok (.agg #[a2, a3]) W ∧ (Instr.index 120 (.agg #[a0, a1, a2, a3, a4, a5, a6, a7]) (.int .i64 2)).run Tryz.prog W = .ok (.agg #[a4, a5]) W ∧ (Instr.index 120 (.agg #[a0, a1, a2, a3, a4, a5, a6, a7]) (.int .i64 3)).run Tryz.prog W = .ok (.agg #[a6, a7]) W := by
  obtain ⟨i, hi⟩ : ∃ i, Tryz.prog.info? 119 = some i := by
    cases h : Tryz.prog.info? 119 with
    | none => have := info119; rw [h] at this; cases this
    | some i => exact ⟨i, rfl⟩
  have hs : i.size = 2 := by have := info119; rw [hi] at this; simpa using this
  refine ⟨?_, ?_, ?_, ?_⟩ <;> simp [Instr.index, asIntOf, run_underlying under120, part, sizeOf, typeInfo, hi, hs, isAgg, run_underlying desc119]
/-- The header that is read. -/
def rdH (h : Hd) : Hd := ⟨str (h.name.data.toList.take 100), str (h.link.data.toList.take 100), h.mode, h.size, h.time, h.kind⟩

set_option maxHeartbeats 4000000 in
set_option maxRecDepth 100000 in
theorem parsed_calls (h : Hd) (hg : HdGood h) (v : Value) (w : World) (hr : RB w v (hdS h)) :
    Calls Tryz.prog 54 #[v] w fun e w' => e = .returned (.tuple #[hdV (rdH h), .int .i64 0]) ∧ Below w.heap.size w w' := by
  have hlen := hdS_len h hg.fits
  obtain ⟨A, c, rfl, hlc, _⟩ := id hr
  obtain ⟨-, -, ad, rfl, hcell⟩ := hr.cellsAt (by omega)
  rw [hlen] at hr hlc ⊢
  have HR := Aside0.mk hr
  have HG := Aside0.mk hg
  have HC := Aside0.mk hcell
  clear hr hg hcell hlen
  have hseg : ∀ lo hi : Nat, lo < hi → hi ≤ 512 → ∀ W, Below w.heap.size w W → RB W (.slice (some (ad.add lo)) (hi - lo) (c - lo)) (seg (hdS h) lo hi) := fun lo hi h1 h2 W hW => (HR.out.mid lo hi h1 (by rw [hdS_len h HG.out.fits]; exact h2)).below hW
  have HS := Aside0.mk hseg
  have hsm : Aside0 (seg (hdS h) 148 156 = octField (sumS (hdS h)) 8) := ⟨by rw [hd_sumS HG.out.fits]; exact hd_sum HG.out.fits⟩
  clear hseg
  go_enter Tryz.func54, Tryz.ntmps54
  go_wp2_with fail
  go_loopw [17] (fun v17 wr => ∃ k : Nat, v17 = .int .i64 k ∧ k ≤ 4 ∧ Aside0 (PsAt w (psS h k 0) (psS h k 1) (psS h k 2) (psS h k 3) wr)) (fun v17 _ => 4 - (intOf v17).toNat)
  case atStart =>
    refine ⟨0, rfl, by omega, ⟨⟨below_alloc (below_alloc (Below.refl _ _) _) _, ?_, ?_⟩⟩⟩
    · rw [heap_alloc_old (w.alloc _) _ (show w.heap.size < (w.alloc _).heap.size by simp)]
      exact heap_alloc_new w _
    · exact psat_new w _ _
  case round =>
    obtain ⟨k, rfl, hk, hA⟩ := hrel
    have hk2 : k = 0 ∨ k = 1 ∨ k = 2 ∨ k = 3 ∨ k = 4 := by omega
    rcases hk2 with rfl | rfl | rfl | rfl | rfl
    · have hix := fun W => (index120 (.int .i64 100) (.int .i64 108) (.int .i64 124) (.int .i64 136) (.int .i64 136) (.int .i64 148) (.int .i64 148) (.int .i64 156) W).1
      have H90 : ∀ W, Below w.heap.size w W → Calls Tryz.prog 90 #[.slice (some ⟨ad.block, ad.off + 100, none⟩) 8 (c - 100)] W fun e w' => e = .returned (.tuple #[.int .i64 h.mode, .int .i64 0]) ∧ Below W.heap.size W w' := fun W hW => octal_calls h.mode 8 W _ (by have := HS.out 100 108 (by omega) (by omega) W hW; rw [hd_mode HG.out.fits] at this; exact this) HG.out.fits.2.2.2.1 HG.out.fits.1 (by omega)
      have H90 := Aside0.mk H90
      have hB := hA.out.below
      obtain ⟨n, hn⟩ : ∃ n, n = h.mode := ⟨_, rfl⟩
      rw [← hn] at H90
      have HN := Aside0.mk hn
      have hcg : wr.cell? ⟨w.heap.size + 1, 0, none⟩ = some (.int .i64 (psS h 0 0)) := by rw [cell_of_row wr _ 0 _ 118 (0, 0) hA.out.g]; rfl
      have hfz : wr.frozen? ⟨w.heap.size + 1, 0, none⟩ = false := blk_frozen hA.out.g _
      have hlt : w.heap.size + 1 < wr.heap.size := blk_lt hA.out.g
      clear hn
      go_wp2_with (first | (go_at_call 90; refine (H90.out _ (below_alloc hB _)).mono ?_; rintro e w5 ⟨rfl, hb5⟩; have hb5' := right_below hb5; have hP5 := hA.out.then_ hb5'; have hcg5 : w5.cell? ⟨w.heap.size + 1, 0, none⟩ = some (.int .i64 (psS h 0 0)) := (by rw [cell_of_row w5 _ 0 _ 118 (0, 0) hP5.g]; rfl); have hfz5 : w5.frozen? ⟨w.heap.size + 1, 0, none⟩ = false := blk_frozen hP5.g _; have HP5 := Aside0.mk hP5; clear hP5))
      have HQ := Aside0.mk (HP5.out.set0 n)
      go_roundw
      case rel => exact ⟨1, rfl, by omega, ⟨by have := HQ.out; rw [HN.out] at this ⊢; exact this⟩⟩
      case measure => decide
    · have hix := fun W => (index120 (.int .i64 100) (.int .i64 108) (.int .i64 124) (.int .i64 136) (.int .i64 136) (.int .i64 148) (.int .i64 148) (.int .i64 156) W).2.1
      have H90 : ∀ W, Below w.heap.size w W → Calls Tryz.prog 90 #[.slice (some ⟨ad.block, ad.off + 124, none⟩) 12 (c - 124)] W fun e w' => e = .returned (.tuple #[.int .i64 h.size, .int .i64 0]) ∧ Below W.heap.size W w' := fun W hW => octal_calls h.size 12 W _ (by have := HS.out 124 136 (by omega) (by omega) W hW; rw [hd_size HG.out.fits] at this; exact this) HG.out.fits.2.2.2.2.1 HG.out.fits.2.1 (by omega)
      have H90 := Aside0.mk H90
      have hB := hA.out.below
      obtain ⟨n, hn⟩ : ∃ n, n = h.size := ⟨_, rfl⟩
      rw [← hn] at H90
      have HN := Aside0.mk hn
      have hcg : wr.cell? ⟨w.heap.size + 1, 1, none⟩ = some (.int .i64 (psS h 1 1)) := by rw [cell_of_row wr _ 1 _ 118 (0, 0) hA.out.g]; rfl
      have hfz : wr.frozen? ⟨w.heap.size + 1, 1, none⟩ = false := blk_frozen hA.out.g _
      have hlt : w.heap.size + 1 < wr.heap.size := blk_lt hA.out.g
      clear hn
      go_wp2_with (first | (go_at_call 90; refine (H90.out _ (below_alloc hB _)).mono ?_; rintro e w5 ⟨rfl, hb5⟩; have hb5' := right_below hb5; have hP5 := hA.out.then_ hb5'; have hcg5 : w5.cell? ⟨w.heap.size + 1, 1, none⟩ = some (.int .i64 (psS h 1 1)) := (by rw [cell_of_row w5 _ 1 _ 118 (0, 0) hP5.g]; rfl); have hfz5 : w5.frozen? ⟨w.heap.size + 1, 1, none⟩ = false := blk_frozen hP5.g _; have HP5 := Aside0.mk hP5; clear hP5))
      have HQ := Aside0.mk (HP5.out.set1 n)
      go_roundw
      case rel => exact ⟨2, rfl, by omega, ⟨by have := HQ.out; rw [HN.out] at this ⊢; exact this⟩⟩
      case measure => decide
    · have hix := fun W => (index120 (.int .i64 100) (.int .i64 108) (.int .i64 124) (.int .i64 136) (.int .i64 136) (.int .i64 148) (.int .i64 148) (.int .i64 156) W).2.2.1
      have H90 : ∀ W, Below w.heap.size w W → Calls Tryz.prog 90 #[.slice (some ⟨ad.block, ad.off + 136, none⟩) 12 (c - 136)] W fun e w' => e = .returned (.tuple #[.int .i64 h.time, .int .i64 0]) ∧ Below W.heap.size W w' := fun W hW => octal_calls h.time 12 W _ (by have := HS.out 136 148 (by omega) (by omega) W hW; rw [hd_time HG.out.fits] at this; exact this) HG.out.fits.2.2.2.2.2 HG.out.fits.2.2.1 (by omega)
      have H90 := Aside0.mk H90
      have hB := hA.out.below
      obtain ⟨n, hn⟩ : ∃ n, n = h.time := ⟨_, rfl⟩
      rw [← hn] at H90
      have HN := Aside0.mk hn
      have hcg : wr.cell? ⟨w.heap.size + 1, 2, none⟩ = some (.int .i64 (psS h 2 2)) := by rw [cell_of_row wr _ 2 _ 118 (0, 0) hA.out.g]; rfl
      have hfz : wr.frozen? ⟨w.heap.size + 1, 2, none⟩ = false := blk_frozen hA.out.g _
      have hlt : w.heap.size + 1 < wr.heap.size := blk_lt hA.out.g
      clear hn
      go_wp2_with (first | (go_at_call 90; refine (H90.out _ (below_alloc hB _)).mono ?_; rintro e w5 ⟨rfl, hb5⟩; have hb5' := right_below hb5; have hP5 := hA.out.then_ hb5'; have hcg5 : w5.cell? ⟨w.heap.size + 1, 2, none⟩ = some (.int .i64 (psS h 2 2)) := (by rw [cell_of_row w5 _ 2 _ 118 (0, 0) hP5.g]; rfl); have hfz5 : w5.frozen? ⟨w.heap.size + 1, 2, none⟩ = false := blk_frozen hP5.g _; have HP5 := Aside0.mk hP5; clear hP5))
      have HQ := Aside0.mk (HP5.out.set2 n)
      go_roundw
      case rel => exact ⟨3, rfl, by omega, ⟨by have := HQ.out; rw [HN.out] at this ⊢; exact this⟩⟩
      case measure => decide
    · have hix := fun W => (index120 (.int .i64 100) (.int .i64 108) (.int .i64 124) (.int .i64 136) (.int .i64 136) (.int .i64 148) (.int .i64 148) (.int .i64 156) W).2.2.2
      have H90 : ∀ W, Below w.heap.size w W → Calls Tryz.prog 90 #[.slice (some ⟨ad.block, ad.off + 148, none⟩) 8 (c - 148)] W fun e w' => e = .returned (.tuple #[.int .i64 (sumS (hdS h)), .int .i64 0]) ∧ Below W.heap.size W w' := fun W hW => octal_calls (sumS (hdS h)) 8 W _ (by have := HS.out 148 156 (by omega) (by omega) W hW; rw [hsm.out] at this; exact this) (by rw [hd_sumS HG.out.fits]; have := sum_small HG.out.fits; omega) (octL_fit8 (by rw [hd_sumS HG.out.fits]; exact sum_small HG.out.fits)) (by omega)
      have H90 := Aside0.mk H90
      have hB := hA.out.below
      obtain ⟨n, hn⟩ : ∃ n, n = (sumS (hdS h)) := ⟨_, rfl⟩
      rw [← hn] at H90
      have HN := Aside0.mk hn
      have hcg : wr.cell? ⟨w.heap.size + 1, 3, none⟩ = some (.int .i64 (psS h 3 3)) := by rw [cell_of_row wr _ 3 _ 118 (0, 0) hA.out.g]; rfl
      have hfz : wr.frozen? ⟨w.heap.size + 1, 3, none⟩ = false := blk_frozen hA.out.g _
      have hlt : w.heap.size + 1 < wr.heap.size := blk_lt hA.out.g
      clear hn
      go_wp2_with (first | (go_at_call 90; refine (H90.out _ (below_alloc hB _)).mono ?_; rintro e w5 ⟨rfl, hb5⟩; have hb5' := right_below hb5; have hP5 := hA.out.then_ hb5'; have hcg5 : w5.cell? ⟨w.heap.size + 1, 3, none⟩ = some (.int .i64 (psS h 3 3)) := (by rw [cell_of_row w5 _ 3 _ 118 (0, 0) hP5.g]; rfl); have hfz5 : w5.frozen? ⟨w.heap.size + 1, 3, none⟩ = false := blk_frozen hP5.g _; have HP5 := Aside0.mk hP5; clear hP5))
      have HQ := Aside0.mk (HP5.out.set3 n)
      go_roundw
      case rel => exact ⟨4, rfl, by omega, ⟨by have := HQ.out; rw [HN.out] at this ⊢; exact this⟩⟩
      case measure => decide
    · have hB := hA.out.below
      have hcv : (convert 25 9 (.slice (some ⟨ad.block, ad.off + 257, none⟩) 8 (c - 257))).run Tryz.prog wr = .ok (.string ⟨#[117, 115, 116, 97, 114, 0, 48, 48]⟩) wr := by
        have := HS.out 257 265 (by omega) (by omega) wr hB
        rw [hd_mark HG.out.fits] at this
        exact conv_string this
      have hc3 : wr.cell? ⟨w.heap.size + 1, 3, none⟩ = some (.int .i64 (sumS (hdS h))) := by rw [cell_of_row wr _ 3 _ 118 (0, 0) hA.out.g]; rfl
      have H80 : ∀ W, Below w.heap.size w W → Calls Tryz.prog 80 #[.slice (some ad) 512 c] W fun e w' => e = .returned (.int .i64 (sumS (hdS h))) ∧ Below W.heap.size W w' := fun W hW => sum_calls (some ad) 512 c (hdS h) (by rw [hdS_len h HG.out.fits]; omega) W (HR.out.below hW)
      have H80 := Aside0.mk H80
      go_upto_region 11 with fail
      go_cut [41] (fun s41 wx => s41 = .bool false ∧ Aside0 (PsAt w (psS h 4 0) (psS h 4 1) (psS h 4 2) (psS h 4 3) wx))
      case first =>
        go_region_with (first | (go_at_call 80; refine (H80.out _ (below_drew hB)).mono ?_; rintro e w5 ⟨rfl, hb5⟩; have hP5 := (hA.out.then_ (below_drew (Below.refl _ _))).then_ hb5; have hc5 : w5.cell? ⟨w.heap.size + 1, 3, none⟩ = some (.int .i64 (sumS (hdS h))) := (by rw [cell_of_row w5 _ 3 _ 118 (0, 0) hP5.g]; rfl); have HP5 := Aside0.mk hP5; clear hP5))
        all_goals (go_wp2_with fail; go_meet; exact ⟨by simp, HP5⟩)
      case rest =>
        obtain ⟨rfl, hP⟩ := hcut
        clear hcv hc3 H80 hA hB
        have hB := hP.out.below
        have e0 : wc.cell? ⟨w.heap.size + 1, 0, none⟩ = some (.int .i64 h.mode) := by rw [cell_of_row wc _ 0 _ 118 (0, 0) hP.out.g]; rfl
        have e1 : wc.cell? ⟨w.heap.size + 1, 1, none⟩ = some (.int .i64 h.size) := by rw [cell_of_row wc _ 1 _ 118 (0, 0) hP.out.g]; rfl
        have e2 : wc.cell? ⟨w.heap.size + 1, 2, none⟩ = some (.int .i64 h.time) := by rw [cell_of_row wc _ 2 _ 118 (0, 0) hP.out.g]; rfl
        have e3 : wc.cell? ⟨ad.block, ad.off + 156, none⟩ = some (.int .u8 h.kind.toNat) := by
          have hk := List.getElem?_eq_some_iff.1 (hd_kind HG.out.fits)
          obtain ⟨hk1, hk2⟩ := hk
          have := pw_cell_below hB (HC.out 156 hk1)
          rw [hk2] at this
          exact this
        have HNa : ∀ W, Below wc.heap.size wc W → Calls Tryz.prog 57 #[.slice (some ad) 100 c] W fun e w' => e = .returned (.string (str (h.name.data.toList.take 100))) ∧ w' = W := fun W hW => by
          have hr := (HR.out.below (below_then hB hB.size hW)).take 100 (by rw [hdS_len h HG.out.fits]; omega)
          have hl : ((hdS h).take 100).length = 100 := by rw [List.length_take, hdS_len h HG.out.fits]; rfl
          have := name_calls _ _ W hr (by omega) (by omega)
          rw [show (hdS h).take 100 = seg (hdS h) 0 100 from rfl, hd_nameS HG.out] at this
          exact this
        have HNb : ∀ W, Below wc.heap.size wc W → Calls Tryz.prog 57 #[.slice (some ⟨ad.block, ad.off + 157, none⟩) 100 (c - 157)] W fun e w' => e = .returned (.string (str (h.link.data.toList.take 100))) ∧ w' = W := fun W hW => by
          have hr := HS.out 157 257 (by omega) (by omega) W (below_then hB hB.size hW)
          have hl := seg_len (l := hdS h) (a := 157) (b := 257) (by rw [hdS_len h HG.out.fits]; omega)
          have := name_calls _ _ W hr (by omega) (by omega)
          rw [hd_linkS HG.out] at this
          exact this
        have HNc : ∀ W, Below w.heap.size w W → Calls Tryz.prog 57 #[.slice (some ⟨ad.block, ad.off + 345, none⟩) 155 (c - 345)] W fun e w' => e = .returned (.string ⟨#[]⟩) ∧ w' = W := fun W hW => by
          have hr := HS.out 345 500 (by omega) (by omega) W hW
          have hl := seg_len (l := hdS h) (a := 345) (b := 500) (by rw [hdS_len h HG.out.fits]; omega)
          have := name_calls _ _ W hr (by omega) (by omega)
          rw [hd_prefixS HG.out.fits] at this
          exact this
        have HNa := Aside0.mk HNa
        have HNb := Aside0.mk HNb
        have HNc := Aside0.mk HNc
        obtain ⟨N, hN⟩ : ∃ N, N = str (h.name.data.toList.take 100) := ⟨_, rfl⟩
        obtain ⟨L, hL⟩ : ∃ L, L = str (h.link.data.toList.take 100) := ⟨_, rfl⟩
        rw [← hN] at HNa
        rw [← hL] at HNb
        have HNN := Aside0.mk hN
        have HLL := Aside0.mk hL
        clear hN hL
        have s1 : ∀ W, (Instr.slice 25 (.slice (some ad) 512 c) none (some (.int .i64 100)) none).run Tryz.prog W = .ok (.slice (some ad) 100 c) W := fun W => by
          obtain ⟨i, hi5, hz, hs1, hs2⟩ := info5_parts
          exact cut_to 25 5 .i64 Tryz.underlying25 hi5 (some ad) 512 c 100 (by omega) (by omega) hlc W
        have s2 : ∀ W, (Instr.slice 25 (.slice (some ad) 512 c) (some (.int .i64 157)) (some (.int .i64 257)) none).run Tryz.prog W = .ok (.slice (some ⟨ad.block, ad.off + 157, none⟩) 100 (c - 157)) W := fun W => run_mid ad c 157 257 (by omega) (by omega) (by omega) hlc W
        go_upto_region 15 with fail
        go_cut [10] (fun s10 wx => ∃ gx, s10 = .pointer (some ⟨gx, 0, none⟩) ∧ wc.heap.size ≤ gx ∧ Aside0 (Below wc.heap.size wc wx) ∧ wx.cell? ⟨gx, 0, none⟩ = some (.string N) ∧ wx.cell? ⟨gx, 1, none⟩ = some (.string L) ∧ wx.cell? ⟨gx, 2, none⟩ = some (.int .i64 h.mode) ∧ wx.cell? ⟨gx, 3, none⟩ = some (.int .i64 h.size) ∧ wx.cell? ⟨gx, 4, none⟩ = some (.int .i64 h.time) ∧ wx.cell? ⟨gx, 5, none⟩ = some (.int .u8 h.kind.toNat))
        case first =>
          go_region_held3 (fun w' => w'.cell? ⟨w.heap.size + 1, 0, none⟩ = some (.int .i64 h.mode) ∧ w'.cell? ⟨w.heap.size + 1, 1, none⟩ = some (.int .i64 h.size) ∧ w'.cell? ⟨w.heap.size + 1, 2, none⟩ = some (.int .i64 h.time) ∧ w'.cell? ⟨ad.block, ad.off + 156, none⟩ = some (.int .u8 h.kind.toNat)) (go_keep) (first | (go_at_call_of 57 (Value.slice (some ad) 100 c); refine (HNa.out _ (by first | exact below_drew (Below.refl _ _) | exact below_alloc (below_drew (Below.refl _ _)) _)).mono ?_; rintro e w' ⟨rfl, rfl⟩) | (go_at_call 57; refine (HNb.out _ (by first | exact below_drew (Below.refl _ _) | exact below_alloc (below_drew (Below.refl _ _)) _)).mono ?_; rintro e w' ⟨rfl, rfl⟩))
          all_goals (go_wp2_with fail; go_meet)
          all_goals exact ⟨_, rfl, Nat.le_refl _, ⟨below_drew (below_alloc (Below.refl _ _) _)⟩, by simp, by simp, by simp, by simp, by simp, by simp⟩
        case rest =>
          obtain ⟨gx, rfl, hgx, hBx, x0, x1, x2, x3, x4, x5⟩ := hcut
          have hP2 := hP.out.then_ hBx.out
          have hB2 := hP2.below
          have hfr : ∀ j, wc.frozen? ⟨w.heap.size, j, none⟩ = false := fun j => blk_frozen hP2.bx _
          have f0 := hfr 0
          have f1 := hfr 1
          have f2 := hfr 2
          have f3 := hfr 3
          have f4 := hfr 4
          have f5 := hfr 5
          have hbc : ∀ j, wc.cell? ⟨w.heap.size, j, none⟩ = (#[Value.string ⟨#[]⟩, Value.string ⟨#[]⟩, Value.int .i64 0, Value.int .i64 0, Value.int .i64 0, Value.int .u8 0] : Array Value)[j]? := fun j => cell_of_row wc _ j _ 80 (0, 0) hP2.bx
          have b0 : wc.cell? ⟨w.heap.size, 0, none⟩ = some (.string ⟨#[]⟩) := hbc 0
          have b1 : wc.cell? ⟨w.heap.size, 1, none⟩ = some (.string ⟨#[]⟩) := hbc 1
          have b2 : wc.cell? ⟨w.heap.size, 2, none⟩ = some (.int .i64 0) := hbc 2
          have b3 : wc.cell? ⟨w.heap.size, 3, none⟩ = some (.int .i64 0) := hbc 3
          have b4 : wc.cell? ⟨w.heap.size, 4, none⟩ = some (.int .i64 0) := hbc 4
          have b5 : wc.cell? ⟨w.heap.size, 5, none⟩ = some (.int .u8 0) := hbc 5
          have HP2 := Aside0.mk hP2
          clear hfr hbc hP2 e0 e1 e2 e3 s1 s2
          go_wp2_with (first | (go_at_call 57; refine (HNc.out _ hB2).mono ?_; rintro e w' ⟨rfl, rfl⟩))
          have hrow := six_set (v0 := .string N) (v1 := .string L) (v2 := .int .i64 h.mode) (v3 := .int .i64 h.size) (v4 := .int .i64 h.time) (v5 := .int .u8 h.kind.toNat) HP2.out.bx
          have hbel := HP2.out.below
          obtain ⟨d80, hd1, hd2⟩ := desc80
          refine bodyPost_ret (results_ct rfl _ _ w.heap.size 80 _ _ d80 rfl hrow hd1 (by cases d80 <;> first | rfl | (exact Bool.noConfusion hd2)) info80) rfl ?_
          refine ⟨?_, (((((hbel.setCell (by simp) _).setCell (by simp) _).setCell (by simp) _).setCell (by simp) _).setCell (by simp) _).setCell (by simp) _⟩
          unfold hdV rdH
          rw [← HNN.out, ← HLL.out]
          rfl
end Go.Proofs.YtkmcbpkciakmeaaGreatDoor.PA
