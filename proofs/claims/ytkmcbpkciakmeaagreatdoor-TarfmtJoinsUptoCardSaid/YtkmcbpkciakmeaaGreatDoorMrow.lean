/- The row's list and arguments, as the walks ask for them. -/
import Derived.Test.YtkmcbpkciakmeaaGreatDoorCards
import Derived.Test.YtkmcbpkciakmeaaGreatDoorTie
import Derived.Test.YtkmcbpkciakmeaaGreatDoorMfields
import Derived.Test.YtkmcbpkciakmeaaGreatDoorRows
import Derived.Test.YtkmcbpkciakmeaaGreatDoorMnames
import Derived.WalkKit
import Derived.ProofKit
import Derived.OpenShut
import Derived.Deep.DeepHandedRow
import Derived.Lib.LaidTab
import Derived.Lib.LaidU8T
import Derived.Shelf.Vars
import Derived.Lay
import Derived.Deep.Slices

/- The row's list of variables, and the world's shape, as the walks ask for them (Tabs); a world for the witness. -/
set_option linter.unusedVariables false
namespace Go.Proofs.YtkmcbpkciakmeaaGreatDoor.PA
open Go.Lib Go.Shelf

def laidList : List (String × DataW Unit) := Rows.tarfmtRecordsUptoRow.laid
theorem tabIs_of_reads {P : Program} {W : World} {name : String} {k : IntKind} {zs : List Int} {g : Nat} {t e : TypeId} {n : Nat}
    (hg : P.globalNamed name = some g) (hty : (P.globals[g]?).map (·.type) = some t) (ht : P.underlying t = some (.array n e)) (he : P.underlying e = some (.int k)) (hce : P.cellsOf e = 1) (hct : P.cellsOf t = n)
    (h : VarReads P W name (tabData k zs)) : TabIs P W name k zs := by
  obtain ⟨g', t', cs, fuel, p, hg', ht', hvar, hd⟩ := h
  obtain rfl := Option.some.inj (hg.symm.trans hg')
  obtain rfl := Option.some.inj (hty.symm.trans ht')
  unfold TabIs
  rw [hvar, ← cells_of_tab ht he hce hct hd]
theorem g_first : Tryz.prog.globalNamed "unicode/utf8.first" = some 2 := by kernel_rfl
theorem g_acc : Tryz.prog.globalNamed "unicode/utf8.acceptRanges" = some 3 := by kernel_rfl
theorem g_deb : Tryz.prog.globalNamed "math/bits.deBruijn64tab" = some 5 := by kernel_rfl
theorem u8x : U8Extra Tryz.prog Tryz.lays196_ren := ⟨by kernel_rfl, by kernel_rfl, by kernel_rfl, by kernel_rfl, by kernel_rfl, by kernel_rfl, by kernel_rfl⟩
def deb64 : List Int := [0, 1, 56, 2, 57, 49, 28, 3, 61, 58, 42, 50, 38, 29, 17, 4, 62, 47, 59, 36, 45, 43, 51, 22, 53, 39, 33, 30, 24, 18, 12, 5, 63, 55, 48, 27, 60, 41, 37, 16, 46, 35, 44, 21, 52, 32, 23, 11, 54, 26, 40, 15, 34, 20, 31, 10, 25, 14, 19, 9, 13, 8, 7, 6]
theorem e_deb : Rows.laid_math_bits_deBruijn64tab (H := Unit) = tabData .u8 deb64 := by rfl
theorem e_pow : Rows.laid_internal_strconv_uint64pow10 (H := Unit) = tabData .u64 Lib.pow10Tab := by rfl
theorem e_acc : Rows.laid_unicode_utf8_acceptRanges (H := Unit) = acceptData := by rfl
theorem e_first : Rows.laid_unicode_utf8_first = firstData := by kernel_rfl
theorem tabs_of {W : World} (h : laidMetH Tryz.prog laidList W) (hs : W.ShapedOpen Tryz.prog) : Tabs W := by
  have hl : laidMet Tryz.prog laidList W := h
  have r1 := laidMet.reads hl (n := "math/bits.deBruijn64tab") (d := Rows.laid_math_bits_deBruijn64tab) (by simp [laidList, Rows.tarfmtRecordsUptoRow])
  have r2 := laidMet.reads hl (n := "internal/strconv.uint64pow10") (d := Rows.laid_internal_strconv_uint64pow10) (by simp [laidList, Rows.tarfmtRecordsUptoRow])
  have r3 := laidMet.reads hl (n := "unicode/utf8.acceptRanges") (d := Rows.laid_unicode_utf8_acceptRanges) (by simp [laidList, Rows.tarfmtRecordsUptoRow])
  have r4 := laidMet.reads hl (n := "unicode/utf8.first") (d := Rows.laid_unicode_utf8_first) (by simp [laidList, Rows.tarfmtRecordsUptoRow])
  rw [e_deb] at r1
  rw [e_pow] at r2
  rw [e_acc] at r3
  rw [e_first] at r4
  have t1 := tabIs_of_reads g_deb (t := 190) (e := 5) (n := 64) (by kernel_rfl) (by kernel_rfl) Tryz.underlying5 (by kernel_rfl) (by kernel_rfl) r1
  have d7 := t1.cell g_deb 7 (by decide)
  have hlt : 5 < W.heap.size := by
    by_cases hb : 5 < W.heap.size
    · exact hb
    · have : W.heap[5]? = none := Array.getElem?_eq_none (by omega)
      simp [World.cell?, this] at d7
  refine ⟨hlt, ?_, tabIs_of_reads g_pow (t := 169) (e := 84) (n := 20) (by kernel_rfl) (by kernel_rfl) (by kernel_rfl) (by kernel_rfl) (by kernel_rfl) r2, utf8Tabs_of_readsT (U8Types.of196 Tryz.lays196) u8x r4 r3, d7⟩
  exact cell_of_shapedOpen_int hs (of_decide_eq_true (by kernel_rfl)) (zero := #[.int .i64 0]) (t := 3) (by kernel_rfl) rfl (by kernel_rfl) (by kernel_rfl) Tryz.underlying3
end Go.Proofs.YtkmcbpkciakmeaaGreatDoor.PA

/-
  FOR A PROOF OF AN '..UptoSaid': WHAT THE BOUND GIVES. Copy it as <Name>Bulk.lean (put your seat's Name for YtkmcbpkciakmeaaGreatDoor, the bound of 'uptoSmall' for 1048576), name it in GOCLAIM.json's 'order' behind <Name>Rows. By an AI agent, Sun Nov 15 2026. No person has read it. No macro, syntax, notation, axiom, sorry.
-/
namespace Go.Proofs.YtkmcbpkciakmeaaGreatDoor.bulks

theorem one_le {H : Type} (d : DataW H) : 1 ≤ Rows.uptoBulk d := by
  cases d with
  | lit l => cases l <;> simp [Rows.uptoBulk]
  | nil => simp [Rows.uptoBulk]
  | ptr d => simp [Rows.uptoBulk]
  | slice elems spare => simp [Rows.uptoBulk]
  | agg parts => simp [Rows.uptoBulk]
  | iface t d => simp [Rows.uptoBulk]
  | map entries => simp [Rows.uptoBulk]
  | held h => simp [Rows.uptoBulk]

/-- a part's bulk is at most the whole's -/
theorem part_le {H : Type} {d : DataW H} {l : List (DataW H)} (h : d ∈ l) : Rows.uptoBulk d ≤ Rows.uptoBulkAll l := by
  induction l with
  | nil => cases h
  | cons x r ih =>
    simp only [Rows.uptoBulkAll]
    cases List.mem_cons.1 h with
    | inl e => subst e; omega
    | inr e => have := ih e; omega

theorem append {H : Type} (l r : List (DataW H)) : Rows.uptoBulkAll (l ++ r) = Rows.uptoBulkAll l + Rows.uptoBulkAll r := by
  induction l with
  | nil => simp [Rows.uptoBulkAll]
  | cons x l ih => simp only [List.cons_append, Rows.uptoBulkAll, ih]; omega

/-- so many values at the most -/
theorem length_le {H : Type} (l : List (DataW H)) : l.length ≤ Rows.uptoBulkAll l := by
  induction l with
  | nil => simp [Rows.uptoBulkAll]
  | cons x r ih => have := one_le x; simp only [Rows.uptoBulkAll, List.length_cons]; omega

/-- a slice's places, and what they hold -/
theorem slice_le {H : Type} (elems spare : List (DataW H)) : elems.length + spare.length + 1 ≤ Rows.uptoBulk (.slice elems spare) := by
  have h1 := length_le elems
  have h2 := length_le spare
  simp only [Rows.uptoBulk]
  omega
theorem slice_elems {H : Type} (elems spare : List (DataW H)) : Rows.uptoBulkAll elems + 1 ≤ Rows.uptoBulk (.slice elems spare) := by
  simp only [Rows.uptoBulk]
  omega

/-- a string's letters -/
theorem string_eq {H : Type} (bytes : List UInt8) : Rows.uptoBulk (DataW.lit (H := H) (.string bytes)) = bytes.length + 1 := by
  simp [Rows.uptoBulk]

/-- THE BOUND, as the builder hands it over ('hk') -/
theorem bound {H : Type} {l : List (DataW H)} (hk : Rows.uptoSmall H l = true) : Rows.uptoBulkAll l ≤ 1048576 := by
  simpa [Rows.uptoSmall] using hk

/-- ROOM: a slice of n elements of b bytes, grown by append: below the 2^48 bytes that append, make and a Builder bear. Here n up to 2^21, b up to 4,096: put your own numbers. -/
theorem room {n b : Nat} (hn : n ≤ 2097152) (hb : b ≤ 4096) : (n + n / 4 + 192) * b ≤ 281474976710656 := by
  have h : (n + n / 4 + 192) * b ≤ 2621632 * 4096 := Nat.mul_le_mul (by omega) hb
  omega

end Go.Proofs.YtkmcbpkciakmeaaGreatDoor.bulks

/- What the arguments of a law are: rows of keys and values, rows of entries, and their bulk. -/
set_option linter.unusedVariables false
namespace Go.Proofs.YtkmcbpkciakmeaaGreatDoor.PA
open Go.ChangeShapes Go.WideShapes Go.RowKit Go.Proofs.YtkmcbpkciakmeaaGreatDoorW.PrintWords
section
variable {H : Type} {enc : TypeId × Value → H} {w : World} {base : Nat} {sp : Nat → Bool} {held : Bool}
theorem cells9 : Tryz.prog.cellsOf 9 = 1 := by kernel_rfl
theorem cells39 : Tryz.prog.cellsOf 39 = 2 := by kernel_rfl
theorem cells44 : Tryz.prog.cellsOf 44 = 6 := by kernel_rfl
set_option maxRecDepth 100000 in
theorem str_of {n : Nat} {c : Value} {y : DataW H × List MemPlace} (h : DataW.trod enc Tryz.prog w base sp held n 9 [c] = some y) : ∃ s : ByteArray, c = .string s ∧ s.size < Rows.uptoBulk y.1 := by
  obtain ⟨s, hc, hy, hs⟩ := DataW.trod_string Tryz.underlying9 h
  injection hc with hc
  refine ⟨s, hc, ?_⟩
  rw [hy, bulks.string_eq]
  show s.size < s.data.toList.length + 1
  have : s.data.toList.length = s.size := rfl
  omega
set_option maxRecDepth 100000 in
theorem kv_of {n : Nat} {cs : List Value} {y : DataW H × List MemPlace} (h : DataW.trod enc Tryz.prog w base sp held n 39 cs = some y) : ∃ x : KV, cs = [.string x.1, .string x.2] ∧ x.1.size + x.2.size < Rows.uptoBulk y.1 := by
  obtain ⟨xs, m, -, rfl, hl, hxl, hall⟩ := DataW.trod_array Tryz.underlying39 h
  rw [cells39] at hl
  match cs, hl with
  | [c0, c1], _ =>
    match xs, hxl with
    | [y0, y1], _ =>
      have h0 := hall 0 (by omega)
      have h1 := hall 1 (by omega)
      rw [cells9] at h0 h1
      obtain ⟨s0, rfl, b0⟩ := str_of (show DataW.trod enc Tryz.prog w base sp held m 9 [c0] = some y0 from h0)
      obtain ⟨s1, rfl, b1⟩ := str_of (show DataW.trod enc Tryz.prog w base sp held m 9 [c1] = some y1 from h1)
      refine ⟨(s0, s1), rfl, ?_⟩
      simp only [List.map_cons, List.map_nil, Rows.uptoBulk, Rows.uptoBulkAll]
      omega

theorem len1 {α : Type} {l : List α} (h : l.length = 1) : ∃ a, l = [a] := List.length_eq_one_iff.1 h
set_option maxRecDepth 100000 in
theorem int_of3 {n : Nat} {c : Value} {y : DataW H × List MemPlace} (h : DataW.trod enc Tryz.prog w base sp held n 3 [c] = some y) : ∃ z : Int, c = .int .i64 z ∧ -9223372036854775808 ≤ z ∧ z ≤ 9223372036854775807 := by
  obtain ⟨z, hc, hy, hw⟩ := DataW.trod_int Tryz.underlying3 h
  injection hc with hc
  refine ⟨z, hc, ?_⟩
  simp only [Lit.wf, Bool.and_eq_true, decide_eq_true_eq] at hw
  rw [show IntKind.i64.min = -9223372036854775808 from rfl, show IntKind.i64.max = 9223372036854775807 from rfl] at hw
  exact hw
set_option maxRecDepth 100000 in
theorem int_of2 {n : Nat} {c : Value} {y : DataW H × List MemPlace} (h : DataW.trod enc Tryz.prog w base sp held n 2 [c] = some y) : ∃ z : Int, c = .int .i64 z ∧ -9223372036854775808 ≤ z ∧ z ≤ 9223372036854775807 := by
  obtain ⟨z, hc, hy, hw⟩ := DataW.trod_int Tryz.underlying2 h
  injection hc with hc
  refine ⟨z, hc, ?_⟩
  simp only [Lit.wf, Bool.and_eq_true, decide_eq_true_eq] at hw
  rw [show IntKind.i64.min = -9223372036854775808 from rfl, show IntKind.i64.max = 9223372036854775807 from rfl] at hw
  exact hw
instance : Inhabited S44 := ⟨z44⟩
set_option maxRecDepth 100000 in
theorem ent_of {n : Nat} {cs : List Value} {y : DataW H × List MemPlace} (h : DataW.trod enc Tryz.prog w base sp held n 44 cs = some y) :
    ∃ x : S44, cs = [.int .i64 x.f0, .string x.f1, .string x.f2, .int .i64 x.f3, .int .i64 x.f4, .string x.f5] ∧ x.f1.size + x.f2.size + x.f5.size < Rows.uptoBulk y.1 := by
  obtain ⟨xs, m, -, rfl, hl, hxl, hall⟩ := DataW.trod_struct Tryz.underlying44 h
  rw [cells44] at hl
  match cs, hl with
  | [c0, c1, c2, c3, c4, c5], _ =>
    match xs, hxl with
    | [y0, y1, y2, y3, y4, y5], _ =>
      have h0 : DataW.trod enc Tryz.prog w base sp held m 3 (([c0, c1, c2, c3, c4, c5].drop 0).take (Tryz.prog.cellsOf 3)) = [y0, y1, y2, y3, y4, y5][0]? := hall 0 _ rfl
      have h1 : DataW.trod enc Tryz.prog w base sp held m 9 (([c0, c1, c2, c3, c4, c5].drop 1).take (Tryz.prog.cellsOf 9)) = [y0, y1, y2, y3, y4, y5][1]? := hall 1 _ rfl
      have h2 : DataW.trod enc Tryz.prog w base sp held m 9 (([c0, c1, c2, c3, c4, c5].drop 2).take (Tryz.prog.cellsOf 9)) = [y0, y1, y2, y3, y4, y5][2]? := hall 2 _ rfl
      have h3 : DataW.trod enc Tryz.prog w base sp held m 3 (([c0, c1, c2, c3, c4, c5].drop 3).take (Tryz.prog.cellsOf 3)) = [y0, y1, y2, y3, y4, y5][3]? := hall 3 _ rfl
      have h4 : DataW.trod enc Tryz.prog w base sp held m 2 (([c0, c1, c2, c3, c4, c5].drop 4).take (Tryz.prog.cellsOf 2)) = [y0, y1, y2, y3, y4, y5][4]? := hall 4 _ rfl
      have h5 : DataW.trod enc Tryz.prog w base sp held m 9 (([c0, c1, c2, c3, c4, c5].drop 5).take (Tryz.prog.cellsOf 9)) = [y0, y1, y2, y3, y4, y5][5]? := hall 5 _ rfl
      rw [show Tryz.prog.cellsOf 3 = 1 by kernel_rfl] at h0 h3
      rw [show Tryz.prog.cellsOf 2 = 1 by kernel_rfl] at h4
      rw [cells9] at h1 h2 h5
      obtain ⟨z0, rfl, -⟩ := int_of3 (show DataW.trod enc Tryz.prog w base sp held m 3 [c0] = some y0 from h0)
      obtain ⟨s1, rfl, b1⟩ := str_of (show DataW.trod enc Tryz.prog w base sp held m 9 [c1] = some y1 from h1)
      obtain ⟨s2, rfl, b2⟩ := str_of (show DataW.trod enc Tryz.prog w base sp held m 9 [c2] = some y2 from h2)
      obtain ⟨z3, rfl, -⟩ := int_of3 (show DataW.trod enc Tryz.prog w base sp held m 3 [c3] = some y3 from h3)
      obtain ⟨z4, rfl, -⟩ := int_of2 (show DataW.trod enc Tryz.prog w base sp held m 2 [c4] = some y4 from h4)
      obtain ⟨s5, rfl, b5⟩ := str_of (show DataW.trod enc Tryz.prog w base sp held m 9 [c5] = some y5 from h5)
      refine ⟨⟨z0, s1, s2, z3, z4, s5⟩, rfl, ?_⟩
      simp only [List.map_cons, List.map_nil, Rows.uptoBulk, Rows.uptoBulkAll]
      omega
theorem part_of {D : Nat → DataW H} {len i : Nat} {sp : List (DataW H)} (hi : i < len) : Rows.uptoBulk (D i) ≤ Rows.uptoBulk (.slice ((List.range len).map D) sp) := by
  have h1 := bulks.part_le (d := D i) (l := (List.range len).map D) (List.mem_map.2 ⟨i, List.mem_range.2 hi, rfl⟩)
  have h2 := bulks.slice_elems ((List.range len).map D) sp
  omega
theorem range_get {α : Type} (X : Nat → α) (len j : Nat) (p : α) (h : ((List.range len).map X)[j]? = some p) : j < len ∧ p = X j := by
  rw [List.getElem?_map] at h
  rcases Nat.lt_or_ge j len with hj | hj
  · rw [List.getElem?_range hj] at h
    exact ⟨hj, by simpa using h.symm⟩
  · rw [List.getElem?_eq_none (by simpa using hj)] at h; cases h
/-- A row of keys and values. -/
theorem open_kvs {a : Option Addr} {len cap : Nat} {d : DataW H} {ps : List MemPlace} (h : DataW.Trod enc Tryz.prog w base sp held 34 (.slice a len cap) d ps) :
    ∃ xs : List KV, xs.length = len ∧ len ≤ cap ∧ Kd.C k39 w a len xs ∧ (∀ x ∈ xs, x.1.size + x.2.size ≤ Rows.uptoBulk d) ∧ len ≤ Rows.uptoBulk d := by
  obtain ⟨fuel, hf⟩ := h
  rcases Go.Deep.open_slice Tryz.underlying34 hf with ⟨hc, hx⟩ | ⟨ad, len', cap', m, n, D, Pl, hc, hb, hl, hm, hmm, hx, hall⟩
  · simp [Value.cells] at hc
    obtain ⟨rfl, rfl, rfl⟩ := hc
    refine ⟨[], rfl, Nat.le_refl _, ⟨rfl, by omega, fun h => absurd h (Nat.lt_irrefl 0)⟩, fun x hx => (by cases hx), Nat.zero_le _⟩
  · simp [Value.cells] at hc
    obtain ⟨rfl, rfl, rfl⟩ := hc
    have hd : d = .slice ((List.range len).map D) ((List.range (m - len)).map fun j => D (len + j)) := congrArg Prod.fst hx
    have hlm : len ≤ m := by rw [hmm]; split <;> omega
    have hall' : ∀ i, i < len → ∃ x : KV, (∀ j u, [Value.string x.1, Value.string x.2][j]? = some u → w.cell? (ad.add (i * 2 + j)) = some u) ∧ x.1.size + x.2.size < Rows.uptoBulk (D i) := by
      intro i hi
      obtain ⟨cs', h1, h2⟩ := hall i (by omega)
      rw [cells39] at h1
      obtain ⟨x, rfl, hbk⟩ := kv_of h2
      obtain ⟨-, -, hcell⟩ := World.cells?_some h1
      refine ⟨x, fun j u hu => ?_, hbk⟩
      have hj : j < 2 := by
        rcases Nat.lt_or_ge j 2 with h | h
        · exact h
        · rw [List.getElem?_eq_none (by simpa using h)] at hu; cases hu
      have := hcell j hj
      rw [add_add] at this
      rw [this, hu]
    have : Inhabited KV := ⟨zKV⟩
    obtain ⟨X, hX⟩ := Go.Deep.choose_lt hall'
    refine ⟨(List.range len).map X, by simp, hl, ⟨by simp, by unfold maxLen at hm; omega, fun _ => ⟨ad, rfl, fun j p hp => ?_⟩⟩, ?_, ?_⟩
    · obtain ⟨hj, rfl⟩ := range_get X len j p hp
      exact ⟨[.string (X j).1, .string (X j).2], rfl, k39_mk w (X j), fun i u hu => (hX j hj).1 i u hu⟩
    · intro x hx
      obtain ⟨i, hi, rfl⟩ := List.mem_map.1 hx
      have h1 := (hX i (List.mem_range.1 hi)).2
      have h2 := part_of (D := D) (sp := (List.range (m - len)).map fun j => D (len + j)) (List.mem_range.1 hi)
      rw [hd]; omega
    · have := bulks.slice_le ((List.range len).map D) ((List.range (m - len)).map fun j => D (len + j))
      rw [hd]
      simp only [List.length_map, List.length_range] at this
      omega
/-- A row of entries. -/
theorem open_ents {a : Option Addr} {len cap : Nat} {d : DataW H} {ps : List MemPlace} (h : DataW.Trod enc Tryz.prog w base sp held 22 (.slice a len cap) d ps) :
    ∃ xs : List S44, xs.length = len ∧ len ≤ cap ∧ Kd.C k44 w a len xs ∧ (∀ x ∈ xs, x.f1.size + x.f2.size + x.f5.size ≤ Rows.uptoBulk d) ∧ len ≤ Rows.uptoBulk d := by
  obtain ⟨fuel, hf⟩ := h
  rcases Go.Deep.open_slice Tryz.underlying22 hf with ⟨hc, hx⟩ | ⟨ad, len', cap', m, n, D, Pl, hc, hb, hl, hm, hmm, hx, hall⟩
  · simp [Value.cells] at hc
    obtain ⟨rfl, rfl, rfl⟩ := hc
    refine ⟨[], rfl, Nat.le_refl _, ⟨rfl, by omega, fun h => absurd h (Nat.lt_irrefl 0)⟩, fun x hx => (by cases hx), Nat.zero_le _⟩
  · simp [Value.cells] at hc
    obtain ⟨rfl, rfl, rfl⟩ := hc
    have hd : d = .slice ((List.range len).map D) ((List.range (m - len)).map fun j => D (len + j)) := congrArg Prod.fst hx
    have hlm : len ≤ m := by rw [hmm]; split <;> omega
    have hall' : ∀ i, i < len → ∃ x : S44, (∀ j u, [Value.int .i64 x.f0, .string x.f1, .string x.f2, .int .i64 x.f3, .int .i64 x.f4, .string x.f5][j]? = some u → w.cell? (ad.add (i * 6 + j)) = some u) ∧ x.f1.size + x.f2.size + x.f5.size < Rows.uptoBulk (D i) := by
      intro i hi
      obtain ⟨cs', h1, h2⟩ := hall i (by omega)
      rw [cells44] at h1
      obtain ⟨x, rfl, hbk⟩ := ent_of h2
      obtain ⟨-, -, hcell⟩ := World.cells?_some h1
      refine ⟨x, fun j u hu => ?_, hbk⟩
      have hj : j < 6 := by
        rcases Nat.lt_or_ge j 6 with h | h
        · exact h
        · rw [List.getElem?_eq_none (by simpa using h)] at hu; cases hu
      have := hcell j hj
      rw [add_add] at this
      rw [this, hu]
    obtain ⟨X, hX⟩ := Go.Deep.choose_lt hall'
    refine ⟨(List.range len).map X, by simp, hl, ⟨by simp, by unfold maxLen at hm; omega, fun _ => ⟨ad, rfl, fun j p hp => ?_⟩⟩, ?_, ?_⟩
    · obtain ⟨hj, rfl⟩ := range_get X len j p hp
      exact ⟨[.int .i64 (X j).f0, .string (X j).f1, .string (X j).f2, .int .i64 (X j).f3, .int .i64 (X j).f4, .string (X j).f5], rfl, k44_mk w (X j), fun i u hu => (hX j hj).1 i u hu⟩
    · intro x hx
      obtain ⟨i, hi, rfl⟩ := List.mem_map.1 hx
      have h1 := (hX i (List.mem_range.1 hi)).2
      have h2 := part_of (D := D) (sp := (List.range (m - len)).map fun j => D (len + j)) (List.mem_range.1 hi)
      rw [hd]; omega
    · have := bulks.slice_le ((List.range len).map D) ((List.range (m - len)).map fun j => D (len + j))
      rw [hd]
      simp only [List.length_map, List.length_range] at this
      omega
end
end Go.Proofs.YtkmcbpkciakmeaaGreatDoor.PA
