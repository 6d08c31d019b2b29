/- Rows of entries in order are sorted. -/
import Derived.Test.YtkmcbpkciakmeaaGreatDoorMcheck
import Derived.Test.YtkmcbpkciakmeaaGreatDoorMprinted
import Derived.Laws.CopyRow
import Derived.Deep.QuietTactic
import Derived.BigQuiet
import Derived.Shelf.SlSortCmp.QuietGrown
import Derived.Laws.CopyOwn

/- tree.Sort's comparison; nothing turns but new blocks. -/
set_option linter.unusedVariables false
set_option linter.unusedSimpArgs false
namespace Go.Proofs.YtkmcbpkciakmeaaGreatDoor.PA
open Go.RowKit Go.Proofs.YtkmcbpkciakmeaaGreatDoorW.PrintWords Go.Proofs.YtkmcbpkciakmeaaGreatDoorW.PrintLast Go.Proofs.YtkmcbpkciakmeaaGreatDoorW.PrintMore

theorem compare_calls (a b : ByteArray) (w : World) : Calls Tryz.prog 62 #[.string a, .string b] w fun e w' => e = .returned (.int .i64 (cmpS a b)) ∧ Below w.heap.size w w' := by
  have h := cmp_Compare_string.calls a b (cmpS a b) w (compare_f a b)
  exact h.mono fun e w' ⟨he, hb⟩ => ⟨he, by first | exact hb | exact hb.below⟩
set_option maxHeartbeats 1000000 in
set_option maxRecDepth 100000 in
theorem less_calls (x y : S44) (w : World) : Calls Tryz.prog 61 #[entV x, entV y] w fun e w' => e = .returned (.int .i64 (cmpS x.f1 y.f1)) ∧ Below w.heap.size w w' := by
  obtain ⟨x0, x1, x2, x3, x4, x5⟩ := x
  obtain ⟨y0, y1, y2, y3, y4, y5⟩ := y
  simp only [entV]
  have H := Aside0.mk (fun W => compare_calls x1 y1 W)
  go_enter Tryz.func61, Tryz.ntmps61
  go_wp2_with (first | (go_at_call 62; refine (H.out _).mono ?_; rintro e w1 ⟨rfl, hb⟩))
  go_ret
  exact ⟨rfl, right_below (right_below' hb)⟩
where right_below' {w : World} {o o2 : Obj} {w1 : World} (hb : Below ((w.alloc o).alloc o2).heap.size ((w.alloc o).alloc o2) w1) : Below (w.alloc o).heap.size (w.alloc o) w1 := right_below hb
end Go.Proofs.YtkmcbpkciakmeaaGreatDoor.PA

/- copy of a row of entries into a new row: the new row alone is written. -/
set_option linter.unusedVariables false
set_option linter.unusedSimpArgs false
namespace Go.Proofs.YtkmcbpkciakmeaaGreatDoor.PA
open Go.RowKit Go.Proofs.YtkmcbpkciakmeaaGreatDoorW.PrintWords Go.Proofs.YtkmcbpkciakmeaaGreatDoorW.PrintLast Go.Proofs.YtkmcbpkciakmeaaGreatDoorW.PrintMore

theorem under22 : Tryz.prog.underlying 22 = some (.slice 44) := by kernel_rfl
theorem size44 : (Tryz.prog.info? 44).map (·.size) = some 6 := by kernel_rfl
theorem run_copy_entries (w : World) (ty : TypeId) (g n c c2 : Nat) (ad : Addr) (cur : Array Value) (cs : List Value)
    (hg : w.heap[g]? = some (.cells cur 44 (0, 0))) (hl : cs.length = n * 6) (hcur : cur.size = n * 6) (hsrc : ∀ j v, cs[j]? = some v → w.cell? (ad.add j) = some v) (h1 : ∀ v ∈ cs, v.oneCell' = true) :
    (Builtin.copy_ #[22, 22] ty #[.slice (some ⟨g, 0, none⟩) n c, .slice (some ad) n c2]).run Tryz.prog w = .ok (goInt n) (w.setRow g cs.toArray) := by
  have hll := run_loadCells_list (P := Tryz.prog) w ad cs hsrc
  have hst := run_storeCells_at Tryz.prog g 0 44 cs 0 cur w hg (by omega) h1
  simp only [Nat.add_zero, Nat.zero_add] at hst
  have he : (cur.toList.take 0 ++ cs ++ cur.toList.drop cs.length).toArray = cs.toArray := by
    rw [List.take_zero, List.nil_append, List.drop_of_length_le (by simp [hcur, hl]), List.append_nil]
  rw [hl] at hll
  cases hq : Tryz.prog.info? 44 with
  | none => have := size44; rw [hq] at this; cases this
  | some i =>
    have hi : i.size = 6 := by have := size44; rw [hq] at this; simpa using this
    simp [Builtin.copy_, run_underlying under22, Builtin.lenOf, Builtin.firstCells, sizeOf, typeInfo, hq, hi, hll]
    rw [hst]
    simp only [Result.andThen, he]
end Go.Proofs.YtkmcbpkciakmeaaGreatDoor.PA

/- Entries laid flat, cell by cell. -/
set_option linter.unusedVariables false
set_option linter.unusedSimpArgs false
namespace Go.Proofs.YtkmcbpkciakmeaaGreatDoor.PA
open Go.RowKit Go.Proofs.YtkmcbpkciakmeaaGreatDoorW.PrintWords Go.Proofs.YtkmcbpkciakmeaaGreatDoorW.PrintLast Go.Proofs.YtkmcbpkciakmeaaGreatDoorW.PrintMore

def flat1 (x : S44) : List Value := [.int .i64 x.f0, .string x.f1, .string x.f2, .int .i64 x.f3, .int .i64 x.f4, .string x.f5]
def flat44 (xs : List S44) : List Value := xs.flatMap flat1
theorem flat44_cons (x : S44) (xs : List S44) : flat44 (x :: xs) = flat1 x ++ flat44 xs := by simp [flat44]
theorem flat44_len : ∀ xs : List S44, (flat44 xs).length = xs.length * 6
  | [] => rfl
  | x :: xs => by rw [flat44_cons, List.length_append, flat44_len xs, List.length_cons]; simp [flat1]; omega
theorem flat44_one : ∀ (xs : List S44), ∀ u ∈ flat44 xs, u.oneCell' = true := by
  intro xs u hu
  simp only [flat44, List.mem_flatMap, flat1] at hu
  obtain ⟨x, _, hx⟩ := hu
  simp at hx
  rcases hx with rfl | rfl | rfl | rfl | rfl | rfl <;> rfl
theorem flat44_at : ∀ (xs : List S44) (m : Nat) (x : S44), xs[m]? = some x → ((flat44 xs).drop (m * 6)).take 6 = flat1 x
  | [], m, x, h => by simp at h
  | y :: xs, 0, x, h => by
    obtain rfl : y = x := by simpa using h
    rw [flat44_cons]; simp [flat1]
  | y :: xs, m + 1, x, h => by
    have := flat44_at xs m x (by simpa using h)
    rw [flat44_cons, show (m + 1) * 6 = (flat1 y).length + m * 6 by simp [flat1]; omega, List.drop_append, List.drop_of_length_le (by omega)]
    simpa using this
theorem flat44_reps (w : World) (base : Nat) (ok : Nat → Prop) (xs : List S44) : Reps (k44.M w base ok) 6 xs (flat44 xs) :=
  ⟨flat44_len xs, fun m x hx => by rw [flat44_at xs m x hx]; exact k44_mkM w base ok x⟩
theorem flat44_cells {w : World} {ad : Addr} {xs : List S44} (h : Kd.C k44 w (some ad) xs.length xs) : ∀ j v, (flat44 xs)[j]? = some v → w.cell? (ad.add j) = some v := by
  intro j v hj
  have hl := flat44_len xs
  have hjl : j < xs.length * 6 := by have := (List.getElem?_eq_some_iff.1 hj).1; omega
  obtain ⟨ad', c, e, _, hK, hc⟩ := Kd.C_get h z44 ((j / 6 : Nat) : Int) (by omega) (by omega)
  injection e with e
  subst e
  rw [Int.toNat_natCast] at hK hc
  have hx : xs[j / 6]? = some (xs.getD (j / 6) z44) := by
    rw [List.getD_eq_getElem?_getD, List.getElem?_eq_getElem (show j / 6 < xs.length by omega)]; rfl
  have h6 := flat44_at xs (j / 6) _ hx
  have hv : (flat1 (xs.getD (j / 6) z44))[j % 6]? = some v := by
    rw [← h6, List.getElem?_take, if_pos (by omega), List.getElem?_drop, show j / 6 * 6 + j % 6 = j by omega]; exact hj
  have hco := k44_open hK
  subst hco
  have := hc (j % 6) v hv
  rwa [show j / 6 * k44.sz + j % 6 = j by show j / 6 * 6 + j % 6 = j; omega] at this
end Go.Proofs.YtkmcbpkciakmeaaGreatDoor.PA

/- slices.insertionSortCmpFunc, of a row of entries that is in order: it stays as it is. -/
set_option linter.unusedVariables false
set_option linter.unusedSimpArgs false
namespace Go.Proofs.YtkmcbpkciakmeaaGreatDoor.PA
open Go.Sort Go.RowKit Go.Proofs.YtkmcbpkciakmeaaGreatDoorW.PrintWords Go.Proofs.YtkmcbpkciakmeaaGreatDoorW.PrintLast Go.Proofs.YtkmcbpkciakmeaaGreatDoorW.PrintMore

theorem cell_lt' {w : World} {a : Addr} {v : Value} (h : w.cell? a = some v) : a.block < w.heap.size := by
  by_cases hb : a.block < w.heap.size
  · exact hb
  · have : w.heap[a.block]? = none := Array.getElem?_eq_none (by omega)
    simp [World.cell?, this] at h
/-- The comparison, with what it draws and lays. -/
theorem less_grown (x y : S44) (w : World) : Calls Tryz.prog 61 #[entV x, entV y] w fun e w' => e = .returned (.int .i64 (cmpS x.f1 y.f1)) ∧ ∃ q os, w' = grow (w.drewN q) os := by
  obtain ⟨x0, x1, x2, x3, x4, x5⟩ := x
  obtain ⟨y0, y1, y2, y3, y4, y5⟩ := y
  simp only [entV]
  have H := Aside0.mk (fun W => cmp_Compare_string.calls x1 y1 (cmpS x1 y1) W (compare_f x1 y1))
  go_enter Tryz.func61, Tryz.ntmps61
  go_wp2_with (first | (go_at_call 62; refine (H.out _).mono ?_; rintro e w1 ⟨rfl, n, rfl⟩))
  go_ret
  refine ⟨rfl, n, #[.cells #[.int .i64 x0, .string x1, .string x2, .int .i64 x3, .int .i64 x4, .string x5] 44, .cells #[.int .i64 y0, .string y1, .string y2, .int .i64 y3, .int .i64 y4, .string y5] 44], ?_⟩
  rw [alloc_eq_grow, alloc_eq_grow, grow_grow]
  rfl
/-- In order: no later path is less than an earlier one. -/
def InOrder (xs : List S44) : Prop := ∀ i j : Nat, j < i → i < xs.length → 0 ≤ cmpS (xs.getD i z44).f1 (xs.getD j z44).f1

set_option maxHeartbeats 2000000 in
set_option maxRecDepth 100000 in
theorem insertion_calls (A0 : Option Addr) (c0 : Nat) (xs : List S44) (a b : Nat) (w : World) (hr0 : Kd.C k44 w A0 xs.length xs) (hc0 : xs.length ≤ c0) (hn : xs.length ≤ 1000) (hb : b ≤ xs.length) (ha : a ≤ 1000) (hs : InOrder xs) :
    Calls Tryz.prog 133 #[.slice A0 xs.length c0, .int .i64 a, .int .i64 b, .func (.func 61) #[] #[]] w fun e w' => e = .returned (.tuple #[]) ∧ Below w.heap.size w w' := by
  have HC := Aside0.mk hr0
  have HS := Aside0.mk hs
  clear hr0 hs
  have mixed : Tryz.prog.follows Departure.mixedOrders = true := by kernel_rfl
  go_enter Tryz.func133, Tryz.ntmps133
  go_wp2_with fail
  go_loopw [8] (fun v8 wr => ∃ i : Nat, v8 = .int .i64 i ∧ a < i ∧ i ≤ 1001 ∧ Aside0 (Below w.heap.size w wr)) (fun v8 _ => 1001 - (intOf v8).toNat)
  case atStart => exact ⟨a + 1, by push_cast; rfl, by omega, by omega, ⟨Below.refl _ _⟩⟩
  case round =>
    obtain ⟨i, rfl, hai, hi1, hA⟩ := hrel
    by_cases hib : i < b
    · obtain ⟨j, hj⟩ : ∃ j, i = j + 1 := ⟨i - 1, by omega⟩
      have hjj : (i : Int) - 1 = (j : Int) := by omega
      have hC := Kd.C_below HC.out hA.out
      obtain ⟨ad, eA, c0_, c1_, c2_, c3_, c4_, c5_⟩ := at_T44 hC (i : Int) (by omega) (by omega)
      obtain ⟨ad', eA', d0_, d1_, d2_, d3_, d4_, d5_⟩ := at_T44 hC (j : Int) (by omega) (by omega)
      obtain rfl : ad = ad' := by rw [eA] at eA'; exact Option.some.inj eA'
      have hge := HS.out i j (by omega) (by omega)
      rw [show rd_T44 xs (i : Int) = xs.getD i z44 from rfl, Int.toNat_natCast] at c0_ c1_ c2_ c3_ c4_ c5_
      rw [show rd_T44 xs (j : Int) = xs.getD j z44 from rfl, Int.toNat_natCast] at d0_ d1_ d2_ d3_ d4_ d5_
      obtain ⟨x, hx⟩ : ∃ x, xs.getD i z44 = x := ⟨_, rfl⟩
      obtain ⟨y, hy⟩ : ∃ y, xs.getD j z44 = y := ⟨_, rfl⟩
      rw [hx] at c0_ c1_ c2_ c3_ c4_ c5_ hge
      rw [hy] at d0_ d1_ d2_ d3_ d4_ d5_ hge
      have h61 := fun W => less_grown x y W
      obtain ⟨x0, x1, x2, x3, x4, x5⟩ := x
      obtain ⟨y0, y1, y2, y3, y4, y5⟩ := y
      obtain ⟨q, hq⟩ : ∃ q, q = cmpS x1 y1 := ⟨_, rfl⟩
      dsimp only at c0_ c1_ c2_ c3_ c4_ c5_ d0_ d1_ d2_ d3_ d4_ d5_ hge h61
      simp only [entV] at h61
      rw [← hq] at h61 hge
      have H61 := Aside0.mk h61
      have hqf : ¬ (q < 0) := by omega
      have hjx : j < xs.length := by omega
      have hix : i < xs.length := by omega
      have HJ := Aside0.mk hj
      have hwj : IntKind.i64.wrap (j : Int) = (j : Int) := by rw [IntKind.wrap_i64]; omega
      subst eA
      have hlt := cell_lt' c0_
      have c0 := fun n os => cell_grown (n := n) (os := os) hlt c0_
      have c1 := fun n os => cell_grown (a := ⟨(ad.add (i * 6)).block, (ad.add (i * 6)).off + 1, none⟩) (n := n) (os := os) hlt c1_
      have c2 := fun n os => cell_grown (a := ⟨(ad.add (i * 6)).block, (ad.add (i * 6)).off + 2, none⟩) (n := n) (os := os) hlt c2_
      have c3 := fun n os => cell_grown (a := ⟨(ad.add (i * 6)).block, (ad.add (i * 6)).off + 3, none⟩) (n := n) (os := os) hlt c3_
      have c4 := fun n os => cell_grown (a := ⟨(ad.add (i * 6)).block, (ad.add (i * 6)).off + 4, none⟩) (n := n) (os := os) hlt c4_
      have c5 := fun n os => cell_grown (a := ⟨(ad.add (i * 6)).block, (ad.add (i * 6)).off + 5, none⟩) (n := n) (os := os) hlt c5_
      have hlt' := cell_lt' d0_
      have d0 := fun n os => cell_grown (n := n) (os := os) hlt' d0_
      have d1 := fun n os => cell_grown (a := ⟨(ad.add (j * 6)).block, (ad.add (j * 6)).off + 1, none⟩) (n := n) (os := os) hlt' d1_
      have d2 := fun n os => cell_grown (a := ⟨(ad.add (j * 6)).block, (ad.add (j * 6)).off + 2, none⟩) (n := n) (os := os) hlt' d2_
      have d3 := fun n os => cell_grown (a := ⟨(ad.add (j * 6)).block, (ad.add (j * 6)).off + 3, none⟩) (n := n) (os := os) hlt' d3_
      have d4 := fun n os => cell_grown (a := ⟨(ad.add (j * 6)).block, (ad.add (j * 6)).off + 4, none⟩) (n := n) (os := os) hlt' d4_
      have d5 := fun n os => cell_grown (a := ⟨(ad.add (j * 6)).block, (ad.add (j * 6)).off + 5, none⟩) (n := n) (os := os) hlt' d5_
      clear hj hx hy hq h61 hC eA' hge c0_ c1_ c2_ c3_ c4_ c5_ d0_ d1_ d2_ d3_ d4_ d5_ hlt hlt'
      go_wp2_with fail
      go_loopw [9] (fun v9 wi => v9 = .int .i64 i ∧ wi = wr) (fun _ _ => 0)
      case atStart => exact ⟨rfl, rfl⟩
      case round =>
        obtain ⟨rfl, rfl⟩ := hrel
        go_wp2_with fail
        have hg1 : decide ((a : Int) < (i : Int)) = true := decide_eq_true (by omega)
        go_quiet_grown (first | (go_at_call 61; refine Calls.grown_of (H61.out _)))
        have hB1 := Aside0.mk (hA.out.trans ((below_grow (w := wr) nq osq).mono hA.out.size))
        generalize grow (wr.drewN nq) osq = W2 at *
        go_wp2_with fail
        go_roundw
        case rel => exact ⟨i + 1, by push_cast; rfl, by omega, by omega, hB1⟩
        case measure => simp [intOf]; omega
    · go_wp2_with fail
      go_end0
      exact ⟨rfl, hA.out⟩
end Go.Proofs.YtkmcbpkciakmeaaGreatDoor.PA

/- tree.copied: a new row of the same entries; new blocks alone. -/
set_option linter.unusedVariables false
set_option linter.unusedSimpArgs false
namespace Go.Proofs.YtkmcbpkciakmeaaGreatDoor.PA
open Go.RowKit Go.Proofs.YtkmcbpkciakmeaaGreatDoorW.PrintWords Go.Proofs.YtkmcbpkciakmeaaGreatDoorW.PrintLast Go.Proofs.YtkmcbpkciakmeaaGreatDoorW.PrintMore

theorem make44 (n : Nat) (hn : n ≤ 1000) : ∃ Z : Array Value, Z.size = n * 6 ∧ ∀ W, (Instr.makeSlice 22 (.int .i64 n) (.int .i64 n)).run Tryz.prog W = .ok (.slice (some ⟨W.heap.size, 0, none⟩) n n) (W.alloc (.cells Z 44)) := by
  obtain ⟨i, hi, hz, h1, h2⟩ := info_parts info44
  refine ⟨_, ?_, fun W => by
    rw [run_makeSlice W 22 44 i _ under22 hi hz .i64 .i64 n n (by omega) (by omega) (by rw [h1]; omega) (by rw [h2]; omega) (by omega)]
    rfl⟩
  rw [size_madeCells, h1]; simp
set_option maxHeartbeats 1000000 in
set_option maxRecDepth 100000 in
theorem copied_calls (A0 : Option Addr) (c0 : Nat) (xs : List S44) (w : World) (hr0 : Kd.C k44 w A0 xs.length xs) (hc0 : xs.length ≤ c0) (hn : xs.length ≤ 1000) (hp : 0 < xs.length) :
    Calls Tryz.prog 59 #[.slice A0 xs.length c0] w fun e w' => ∃ g, e = .returned (.slice (some ⟨g, 0, none⟩) xs.length xs.length) ∧ w.heap.size ≤ g ∧ w'.heap[g]? = some (.cells (flat44 xs).toArray 44 (0, 0)) ∧ Below w.heap.size w w' := by
  obtain ⟨Z, hZ, hmk⟩ := make44 xs.length hn
  obtain ⟨ad, eA, _⟩ := at_T44 hr0 0 (by omega) (by omega)
  subst eA
  have hg := heap_alloc_new w (.cells Z 44)
  have hcp : (Builtin.copy_ #[22, 22] 3 #[.slice (some ⟨w.heap.size, 0, none⟩) xs.length xs.length, .slice (some ad) xs.length c0]).run Tryz.prog (w.alloc (.cells Z 44)) = .ok (goInt xs.length) ((w.alloc (.cells Z 44)).setRow w.heap.size (flat44 xs).toArray) :=
    run_copy_entries _ 3 w.heap.size xs.length xs.length c0 ad Z (flat44 xs) hg (flat44_len xs) hZ (flat44_cells (Kd.C_below hr0 (below_alloc (Below.refl _ _) _))) (flat44_one xs)
  have HG := Aside0.mk hg
  have HZ := Aside0.mk hZ
  clear hg hr0 hZ
  go_enter Tryz.func59, Tryz.ntmps59
  go_wp2
  go_ret
  exact ⟨w.heap.size, rfl, Nat.le_refl _, setRow_heap _ _ _ _ 44 (0, 0) HG.out, below_setRow (below_alloc (Below.refl _ _) _) (Nat.le_refl _) _⟩
end Go.Proofs.YtkmcbpkciakmeaaGreatDoor.PA

/- tree.Sort of a row of fewer than twenty entries that is in order: a row of one's own, the same entries. -/
set_option linter.unusedVariables false
set_option linter.unusedSimpArgs false
namespace Go.Proofs.YtkmcbpkciakmeaaGreatDoor.PA
open Go.RowKit Go.Proofs.YtkmcbpkciakmeaaGreatDoorW.PrintWords Go.Proofs.YtkmcbpkciakmeaaGreatDoorW.PrintLast Go.Proofs.YtkmcbpkciakmeaaGreatDoorW.PrintMore

set_option maxHeartbeats 1000000 in
set_option maxRecDepth 100000 in
theorem stable_small (A0 : Option Addr) (c0 : Nat) (xs : List S44) (w : World) (hr0 : Kd.C k44 w A0 xs.length xs) (hc0 : xs.length ≤ c0) (hn : xs.length < 20) (hs : InOrder xs) :
    Calls Tryz.prog 95 #[.slice A0 xs.length c0, .int .i64 xs.length, .func (.func 61) #[] #[]] w fun e w' => e = .returned (.tuple #[]) ∧ Below w.heap.size w w' := by
  have H := Aside0.mk (insertion_calls A0 c0 xs 0 xs.length w hr0 hc0 (by omega) (Nat.le_refl _) (by omega) hs)
  have h1 : ¬ ((20 : Int) ≤ (xs.length : Int)) := by omega
  have h2 : ¬ ((20 : Int) < (xs.length : Int)) := by omega
  clear hr0 hs
  go_enter Tryz.func95, Tryz.ntmps95
  go_wp2_with fail
  refine wp_loop_rounds 1 ?_
  rw [rounds_succ]
  go_wp2_with (first | (go_at_call 133; refine (H.out).mono ?_; rintro e w1 ⟨rfl, hb1⟩))
  refine wp_loop_rounds 1 ?_
  rw [rounds_succ]
  go_wp2_with fail
  go_end0
  exact ⟨rfl, hb1⟩
set_option maxHeartbeats 1000000 in
set_option maxRecDepth 100000 in
theorem stableFunc_calls (A0 : Option Addr) (c0 n : Nat) (w : World) (h : Calls Tryz.prog 95 #[.slice A0 n c0, .int .i64 n, .func (.func 61) #[] #[]] w fun e w' => e = .returned (.tuple #[]) ∧ Below w.heap.size w w') :
    Calls Tryz.prog 60 #[.slice A0 n c0, .func (.func 61) #[] #[]] w fun e w' => e = .returned (.tuple #[]) ∧ Below w.heap.size w w' := by
  have H := Aside0.mk h
  clear h
  go_enter Tryz.func60, Tryz.ntmps60
  go_wp2_with (first | (go_at_call 95; refine (H.out).mono ?_; rintro e w1 ⟨rfl, hb1⟩))
  go_end0
  exact ⟨rfl, hb1⟩
theorem flat_C {w : World} {g : Nat} {xs : List S44} (hn : xs.length ≤ 1000) (h : w.heap[g]? = some (.cells (flat44 xs).toArray 44 (0, 0))) : Kd.C k44 w (some ⟨g, 0, none⟩) xs.length xs := by
  refine ⟨rfl, by omega, fun _ => ⟨⟨g, 0, none⟩, rfl, fun j p hp => ⟨flat1 p, rfl, k44_mk w p, fun i u hu => ?_⟩⟩⟩
  have ha : (⟨g, 0, none⟩ : Addr).add (j * 6 + i) = ⟨g, j * 6 + i, none⟩ := by
    unfold Addr.add; simp; omega
  have hi : i < 6 := by
    rcases Nat.lt_or_ge i 6 with h1 | h1
    · exact h1
    · rw [List.getElem?_eq_none (by simpa [flat1] using h1)] at hu; cases hu
  show w.cell? ((⟨g, 0, none⟩ : Addr).add (j * 6 + i)) = some u
  rw [ha, cell_of_row w g _ _ 44 (0, 0) h, List.getElem?_toArray]
  have e := flat44_at xs j p hp
  rw [← e, List.getElem?_take, if_pos hi, List.getElem?_drop] at hu
  exact hu
set_option maxHeartbeats 1000000 in
set_option maxRecDepth 100000 in
theorem sort_small (A0 : Option Addr) (c0 : Nat) (xs : List S44) (w : World) (hr0 : Kd.C k44 w A0 xs.length xs) (hc0 : xs.length ≤ c0) (hp : 0 < xs.length) (hn : xs.length < 20) (hs : InOrder xs) :
    Calls Tryz.prog 30 #[.slice A0 xs.length c0] w fun e w' => ∃ A' c', e = .returned (.slice A' xs.length c') ∧ xs.length ≤ c' ∧ Kd.C k44 w' A' xs.length xs ∧ Below w.heap.size w w' := by
  have H59 := Aside0.mk (copied_calls A0 c0 xs w hr0 hc0 (by omega) hp)
  have HS := Aside0.mk hs
  clear hr0 hs
  go_enter Tryz.func30, Tryz.ntmps30
  go_wp2_with (first | (go_at_call 59; refine (H59.out).mono ?_; rintro e w1 ⟨g, rfl, hg, hc, hb1⟩; have HC := Aside0.mk (flat_C (by omega) hc)) | (go_at_call 60; refine (stableFunc_calls _ _ _ _ (stable_small _ _ xs _ HC.out (Nat.le_refl _) hn HS.out)).mono ?_; rintro e w2 ⟨rfl, hb2⟩))
  go_ret
  exact ⟨_, _, rfl, Nat.le_refl _, Kd.C_below HC.out hb2, below_then hb1 hb1.size hb2⟩
end Go.Proofs.YtkmcbpkciakmeaaGreatDoor.PA
