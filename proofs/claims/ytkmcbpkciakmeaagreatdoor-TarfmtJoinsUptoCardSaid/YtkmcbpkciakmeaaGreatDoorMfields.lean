/- What the walks share, rows of bytes, copies, numbers in octal and decimal. -/
import Derived.Test.YtkmcbpkciakmeaaGreatDoorF
import Derived.Test.YtkmcbpkciakmeaaGreatDoorShelf
import Derived.Lib.LaidTab
import Derived.Laws.IdiomCopy
import Derived.Lib.BufferWrite
import Derived.Laws.CopyRow
import Derived.Laws.CopyOwn
import Derived.Laws.RangeAny

/- What the program's walks share: the package-level variables as the row lists them (Tabs), kept by whatever leaves the first six blocks; the library's contracts in one form. Holds in every world. -/
set_option linter.unusedVariables false
set_option linter.unusedSimpArgs false
namespace Go.Proofs.YtkmcbpkciakmeaaGreatDoor.PA
open Go.Sort Go.RowKit Go.Proofs.YtkmcbpkciakmeaaGreatDoorW.PrintWords Go.Proofs.YtkmcbpkciakmeaaGreatDoorW.PrintLast Go.Proofs.YtkmcbpkciakmeaaGreatDoorW.PrintMore

abbrev Bytes := List UInt8
/-- The text of some bytes. -/
def str (l : Bytes) : ByteArray := ⟨l.toArray⟩
theorem str_data (s : ByteArray) : str s.data.toList = s := rfl
theorem data_str (l : Bytes) : (str l).data.toList = l := rfl
theorem str_size (l : Bytes) : (str l).size = l.length := by simp [str, ByteArray.size]
theorem size_data (s : ByteArray) : s.size = s.data.toList.length := by rw [data_length]
theorem str_append (a b : Bytes) : str a ++ str b = str (a ++ b) := by
  apply ByteArray.ext
  simp [str]
theorem str_inj {a b : Bytes} (h : str a = str b) : a = b := by
  have := congrArg (fun s : ByteArray => s.data.toList) h
  exact this

/-- The package-level variables that the code reads, as the row lists them. -/
structure Tabs (w : World) : Prop where
  size : 6 ≤ w.heap.size
  maxLen : ∃ m, w.cell? ⟨0, 0, none⟩ = some (.int .i64 m)
  pow : Lib.TabIs Tryz.prog w "internal/strconv.uint64pow10" .u64 Lib.pow10Tab
  utf : Lib.Utf8Tabs 2 3 w
  deb : w.cell? ⟨5, 7, none⟩ = some (.int .u8 3)

theorem g_pow : Tryz.prog.globalNamed "internal/strconv.uint64pow10" = some 1 := by kernel_rfl

theorem cell_of_heap {w w' : World} {a : Addr} (h : w'.heap[a.block]? = w.heap[a.block]?) : w'.cell? a = w.cell? a := World.cell?_of_block h

theorem Tabs.keep {w w' : World} (h : Tabs w) (hs : w.heap.size ≤ w'.heap.size) (hk : ∀ k, k < 6 → w'.heap[k]? = w.heap[k]?) : Tabs w' := by
  refine ⟨Nat.le_trans h.size hs, ?_, ?_, ⟨?_, ?_⟩, (cell_of_heap (hk 5 (by omega))).trans h.deb⟩
  · obtain ⟨m, hm⟩ := h.maxLen
    exact ⟨m, (cell_of_heap (hk 0 (by omega))).trans hm⟩
  · have := h.pow
    unfold Lib.TabIs World.var? at this ⊢
    simp only [g_pow, Option.bind_some] at this ⊢
    rw [hk 1 (by omega)]
    exact this
  · exact fun c hc => (cell_of_heap (hk 2 (by omega))).trans (h.utf.1 c hc)
  · exact fun i hi => ⟨(cell_of_heap (hk 3 (by omega))).trans (h.utf.2 i hi).1, (cell_of_heap (hk 3 (by omega))).trans (h.utf.2 i hi).2⟩
theorem Tabs.below {w w' : World} (h : Tabs w) (hb : Below w.heap.size w w') : Tabs w' := h.keep hb.size fun k hk => hb.block k (by have := h.size; omega)
theorem Tabs.belowB {w w' : World} {B : Nat} (h : Tabs w) (hb : Below B w w') (hB : 6 ≤ B) : Tabs w' := h.keep hb.size fun k hk => hb.block k (by omega)
theorem Tabs.drew {w : World} (h : Tabs w) : Tabs w.drew := h.below (below_drew (Below.refl _ _))
theorem Tabs.drewN {w : World} (h : Tabs w) (n : Nat) : Tabs (w.drewN n) := h.below (pw_below_drewN (Below.refl _ _) n)
theorem Tabs.alloc {w : World} (h : Tabs w) (o : Obj) : Tabs (w.alloc o) := h.below (below_alloc (Below.refl _ _) o)

theorem below_grow {w : World} (k : Nat) (os : Array Obj) : Below w.heap.size w (grow (w.drewN k) os) := by
  refine ⟨rfl, rfl, rfl, ?_, fun i hi => ?_⟩
  · simp [grow, World.drewN]
  · simp only [grow, World.drewN]
    rw [Array.getElem?_append_left hi]

/-! The library's calls, each with 'Below' -/
theorem itoa_calls (n : Int) (w : World) (hT : Tabs w) (h0 : -9223372036854775808 ≤ n) (h1 : n ≤ 9223372036854775807) :
    Calls Tryz.prog 32 #[.int .i64 n] w fun e w' => e = .returned (.string (str (Lib.itoa n))) ∧ Below w.heap.size w w' :=
  (Tryz.strconv_Itoa n h0 h1 w hT.pow).mono fun e w' ⟨he, k, os, hw⟩ => ⟨he, hw ▸ below_grow k os⟩

theorem write_calls (B b : Nat) (l : Bytes) (s : ByteArray) (w : World) (h : Lib.IsBuilder 59 5 B b (Lib.byteCells l) w) (hlen : l.length + s.size ≤ 140737488355328) (hBw : B ≤ w.heap.size) :
    Calls Tryz.prog 33 #[.pointer (some ⟨b, 0, none⟩), .string s] w fun e w' => e = .returned (.tuple #[.int .i64 s.size, .nilIface]) ∧ Lib.IsBuilder 59 5 B b (Lib.byteCells (l ++ s.data.toList)) w' ∧ Below B w w' := by
  refine (Any.Builder_WriteString { Tryz.lays156 with } Tryz.Builder_Extra_156 B b (Lib.byteCells l) s w h (by rw [Lib.byteCells_length]; exact hlen) hBw).mono fun _ _ ⟨he, hb, hw⟩ => ⟨he, .inr ?_, hw⟩
  rw [Lib.byteCells_append]
  exact hb
theorem valid_calls (s : ByteArray) (w : World) (hT : Tabs w) (hs : s.size ≤ 9223372036854775807) :
    Calls Tryz.prog 156 #[.string s] w fun e w' => e = .returned (.bool (Lib.validD s.data.toList)) ∧ Below w.heap.size w w' :=
  Any.utf8_ValidString Tryz.lays196 s w hs hT.utf
theorem cut_calls (s sep : ByteArray) (w : World) (hT : Tabs w) (hs : s.size < 4294967281) :
    Calls Tryz.prog 36 #[.string s, .string sep] w fun e w' => e = .returned (.tuple #[.string (str (Lib.cut s.data.toList sep.data.toList).1), .string (str (Lib.cut s.data.toList sep.data.toList).2.1), .bool (Lib.cut s.data.toList sep.data.toList).2.2]) ∧ Below w.heap.size w w' := by
  obtain ⟨m, hm⟩ := hT.maxLen
  exact (Tryz.strings_Cut s sep m w hs hm).mono fun e w' ⟨he, n, hw⟩ => ⟨he, hw ▸ pw_below_drewN (Below.refl _ _) n⟩
theorem trim_calls (s cutset : ByteArray) (w : World) (hs : s.size ≤ 9223372036854775807) (hcs : cutset.size < 4294967281) (hascii : ∀ (j : Nat) b, cutset.data.toList[j]? = some b → b.toNat < 128) :
    Calls Tryz.prog 124 #[.string s, .string cutset] w fun e w' => e = .returned (.string (str (Lib.trimS s.data.toList cutset.data.toList))) ∧ Below w.heap.size w w' :=
  Any.strings_Trim_laid Tryz.lays160 (by kernel_rfl) s cutset w hs hcs hascii
end Go.Proofs.YtkmcbpkciakmeaaGreatDoor.PA

/- Rows of bytes of a call's own: what append, make and a conversion leave, and how they are read. Holds in every world. -/
set_option linter.unusedVariables false
set_option linter.unusedSimpArgs false
namespace Go.Proofs.YtkmcbpkciakmeaaGreatDoor.PA
open Go.RowKit Go.Proofs.YtkmcbpkciakmeaaGreatDoorW.PrintWords Go.Proofs.YtkmcbpkciakmeaaGreatDoorW.PrintLast Go.Proofs.YtkmcbpkciakmeaaGreatDoorW.PrintMore

def ints (l : Bytes) : List Int := l.map fun b => (b.toNat : Int)
theorem ints_length (l : Bytes) : (ints l).length = l.length := by simp [ints]

/-- A slice that is read: the bytes l. -/
def RB (w : World) (v : Value) (l : Bytes) : Prop :=
  ∃ A c, v = .slice A l.length c ∧ l.length ≤ c ∧ l.length ≤ 9223372036854775807 ∧ (0 < l.length → ∃ ad, A = some ad ∧ ∀ j u, (Lib.byteCells l)[j]? = some u → w.cell? (ad.add j) = some u)
/-- A row of the call's own (block B at the least): the bytes l, nil let in. -/
def Bin (w : World) (B : Nat) (v : Value) (l : Bytes) : Prop :=
  (v = .slice none 0 0 ∧ l = []) ∨ ∃ g cap, v = .slice (some ⟨g, 0, none⟩) l.length cap ∧ B ≤ g ∧ g < w.heap.size ∧ l.length ≤ cap ∧ cap ≤ 9223372036854775807 ∧
    (∀ j, j < cap → (w.cell? ⟨g, j, none⟩).isSome = true ∧ w.frozen? ⟨g, j, none⟩ = false) ∧ (∀ j u, (Lib.byteCells l)[j]? = some u → w.cell? ⟨g, j, none⟩ = some u)

theorem byteCells_one (l : Bytes) : ∀ u ∈ Lib.byteCells l, u.oneCell' = true := by
  intro u hu
  simp only [Lib.byteCells, List.mem_map] at hu
  obtain ⟨b, _, rfl⟩ := hu
  rfl
theorem byteCells_get (l : Bytes) (j : Nat) (h : j < l.length) : (Lib.byteCells l)[j]? = some (.int .u8 (l[j].toNat : Int)) := by
  simp [Lib.byteCells, List.getElem?_map, List.getElem?_eq_getElem h]

theorem RB.below {w w1 : World} {v : Value} {l : Bytes} (h : RB w v l) (hb : Below w.heap.size w w1) : RB w1 v l := by
  obtain ⟨A, c, hv, h1, h2, h3⟩ := h
  exact ⟨A, c, hv, h1, h2, fun hn => by
    obtain ⟨ad, hA, hc⟩ := h3 hn
    exact ⟨ad, hA, fun j u hu => pw_cell_below hb (hc j u hu)⟩⟩
theorem Bin.reads {w : World} {B : Nat} {v : Value} {l : Bytes} (h : Bin w B v l) : RB w v l := by
  rcases h with ⟨rfl, rfl⟩ | ⟨g, cap, rfl, _, _, h1, h2, _, h3⟩
  · exact ⟨none, 0, rfl, by simp, by simp, fun h => by simp at h⟩
  · exact ⟨some ⟨g, 0, none⟩, cap, rfl, h1, by omega, fun _ => ⟨_, rfl, fun j u hu => by rw [add_plain]; exact h3 j u hu⟩⟩
theorem Bin.nil (w : World) (B : Nat) : Bin w B (.slice none 0 0) [] := .inl ⟨rfl, rfl⟩
theorem Bin.lower {w : World} {B B' : Nat} {v : Value} {l : Bytes} (h : Bin w B v l) (hB : B' ≤ B) : Bin w B' v l := by
  rcases h with h | ⟨g, cap, h0, h1, h2⟩
  · exact .inl h
  · exact .inr ⟨g, cap, h0, by omega, h2⟩
/-- Kept by whatever leaves its block. -/
theorem Bin.keep {w w1 : World} {B : Nat} {v : Value} {l : Bytes} (h : Bin w B v l) (hs : w.heap.size ≤ w1.heap.size) (hk : ∀ k, v.ownBlock = some k → k < w.heap.size → w1.heap[k]? = w.heap[k]?) : Bin w1 B v l := by
  rcases h with h | ⟨g, cap, rfl, h1, h2, h3, h4, h5, h6⟩
  · exact .inl h
  · have e := hk g rfl h2
    have hc : ∀ j, w1.cell? ⟨g, j, none⟩ = w.cell? ⟨g, j, none⟩ := fun j => World.cell?_of_block e
    have hf : ∀ j, w1.frozen? ⟨g, j, none⟩ = w.frozen? ⟨g, j, none⟩ := fun j => by unfold World.frozen?; rw [e]
    exact .inr ⟨g, cap, rfl, h1, by omega, h3, h4, fun j hj => by rw [hc, hf]; exact h5 j hj, fun j u hu => by rw [hc]; exact h6 j u hu⟩
theorem Bin.below {w w1 : World} {B : Nat} {v : Value} {l : Bytes} (h : Bin w B v l) (hb : Below w.heap.size w w1) : Bin w1 B v l := h.keep hb.size fun k _ hk => hb.block k hk
theorem Bin.grown {w w1 : World} {B : Nat} {v : Value} {l : Bytes} (h : Bin w B v l) {row : Option Nat} (hb : w.grownBy w1 row) (hr : ∀ k, v.ownBlock = some k → some k ≠ row) : Bin w1 B v l := h.keep hb.size fun k hk hlt => hb.block k hlt (hr k hk)
theorem Bin.base {w : World} {B : Nat} {v : Value} {l : Bytes} (h : Bin w B v l) : ∀ k, v.ownBlock = some k → B ≤ k := by
  rcases h with ⟨rfl, _⟩ | ⟨g, cap, rfl, h1, _⟩
  · intro k hk; simp [Value.ownBlock] at hk
  · intro k hk
    have : g = k := by simpa [Value.ownBlock] using hk
    omega

/-- A new row at the heap's end. -/
theorem Bin.fresh {w : World} {B : Nat} {l : Bytes} {cap : Nat} {cells : Array Value} {t : TypeId} {W : World} (hB : B ≤ w.heap.size) (hW : W.heap[w.heap.size]? = some (.cells cells t (0, 0))) (hs : w.heap.size < W.heap.size)
    (h1 : l.length ≤ cap) (h2 : cap ≤ 9223372036854775807) (h3 : cap ≤ cells.size) (h4 : ∀ (j : Nat) (u : Value), (Lib.byteCells l)[j]? = some u → cells[j]? = some u) : Bin W B (.slice (some ⟨w.heap.size, 0, none⟩) l.length cap) l := by
  refine .inr ⟨_, _, rfl, hB, hs, h1, h2, fun j hj => ⟨?_, ?_⟩, fun j u hu => ?_⟩
  · rw [cell_of_row W _ j cells t (0, 0) hW, Array.getElem?_eq_getElem (by omega)]; rfl
  · simp [World.frozen?, hW]
  · rw [cell_of_row W _ j cells t (0, 0) hW]; exact h4 j u hu

theorem info5_parts : ∃ i, Tryz.prog.info? 5 = some i ∧ i.zero = some (.int .u8 0) ∧ i.size = 1 ∧ i.bytes = 1 := info_parts info5

theorem Bin.alloc_row {w : World} {B : Nat} (hB : B ≤ w.heap.size) (l : Bytes) (c : Nat) (h1 : l.length ≤ c) (h2 : c ≤ 9223372036854775807) :
    Bin (w.drew.alloc (.cells ((Lib.byteCells l).toArray ++ Builtin.zeroCells (Value.int .u8 0).cells (c - l.length)) 5)) B (.slice (some ⟨w.heap.size, 0, none⟩) l.length c) l := by
  refine Bin.fresh (w := w) (t := 5) hB (heap_alloc_new w.drew _) (by simp) h1 h2 (by simp [size_zeroCells, Lib.byteCells_length, Value.cells]; omega) (fun j u hu => ?_)
  have hj : j < (Lib.byteCells l).length := by
    rcases Nat.lt_or_ge j (Lib.byteCells l).length with h | h
    · exact h
    · rw [List.getElem?_eq_none h] at hu; cases hu
  rw [Array.getElem?_append_left (by simpa using hj)]
  simpa using hu

theorem run_append_bin {w : World} {B : Nat} {v x : Value} {l m : Bytes} (hB : B ≤ w.heap.size) (hv : Bin w B v l) (hx : RB w x m) (hlen : l.length + m.length ≤ 140737488355328) (ty : TypeId) :
    ∃ v' w', (Builtin.append_ #[25, 25] ty #[v, x]).run Tryz.prog w = .ok v' w' ∧ Bin w' B v' (l ++ m) ∧ w.grownBy w' v.ownBlock ∧ (v'.ownBlock = v.ownBlock ∨ v'.ownBlock = some w.heap.size) := by
  obtain ⟨i, hi, hz, h1, h2⟩ := info5_parts
  have ht := Tryz.underlying25
  obtain ⟨A, c, rfl, hc0, hc1, hc2⟩ := hx
  by_cases hm : m = []
  · subst hm
    refine ⟨v, w, ?_, by simpa using hv, World.grownBy.refl w _, .inl rfl⟩
    rcases hv with ⟨rfl, rfl⟩ | ⟨g, cap, rfl, _, _, h3, _⟩
    · rcases A with _ | a <;> simp [Builtin.append_, run_underlying ht, sizeOf, typeInfo, hi, Builtin.lenOf, Builtin.firstCells, loadCells, loadCellsFrom]
    · rcases A with _ | a <;> simp [Builtin.append_, run_underlying ht, sizeOf, typeInfo, hi, Builtin.lenOf, Builtin.firstCells, h3, storeCells, loadCells, loadCellsFrom]
  · have hm0 : 0 < m.length := List.length_pos_iff.2 hm
    obtain ⟨ad, rfl, hnews⟩ := hc2 hm0
    have hl : (Lib.byteCells m).length = m.length * i.size := by rw [Lib.byteCells_length, h1, Nat.mul_one]
    rcases hv with ⟨rfl, rfl⟩ | ⟨g, cap, rfl, h3, h3', h4, h5, h6, h7⟩
    · have hr := run_append_nil (P := Tryz.prog) w 25 ty 5 i (.int .u8 0) ht hi hz ad m.length c (Lib.byteCells m) hl hnews hm0 (by omega) (by rw [h2]; omega)
      refine ⟨_, _, hr, ?_, ⟨rfl, rfl, rfl, by simp, fun k hk _ => heap_alloc_old w.drew _ hk⟩, .inr rfl⟩
      have hge := grownCap_ge w m.length 0 5
      have hcm := grownCap_le_maxLen w m.length 0 5 (by simp only [maxLen]; omega)
      simp only [maxLen] at hcm
      exact Bin.alloc_row hB m _ hge hcm
    · by_cases hroom : l.length + m.length ≤ cap
      · have hload := run_firstCells_some (P := Tryz.prog) w i.size m.length ad m.length c (Lib.byteCells m) hl hnews
        have hst := run_storeCells_cells (P := Tryz.prog) g l.length (Lib.byteCells m) 0 w (fun j hj => (h6 _ (by rw [Lib.byteCells_length] at hj; omega)).1) (fun j hj => (h6 _ (by rw [Lib.byteCells_length] at hj; omega)).2) (byteCells_one m)
        refine ⟨.slice (some ⟨g, 0, none⟩) (l.length + m.length) cap, w.setCells g l.length (Lib.byteCells m), ?_, ?_, ?_, .inl rfl⟩
        · rw [Nat.add_zero] at hst
          simp only [Builtin.append_, run_underlying ht, sizeOf, typeInfo, hi, Builtin.lenOf, Sem.run_bind, Sem.run_pure, Result.andThen_ok, List.getElem?_toArray]
          rw [h1] at hload
          simp [hi, hload, hroom, h1, add_plain, hst]
        · have hsome : ∀ j, j < (Lib.byteCells m).length → (w.cell? ⟨g, l.length + j, none⟩).isSome = true := fun j hj => (h6 _ (by rw [Lib.byteCells_length] at hj; omega)).1
          have hin := World.cell?_setCells_in g (Lib.byteCells m) l.length w hsome
          have hsz : (w.setCells g l.length (Lib.byteCells m)).heap.size = w.heap.size := (setCells_same g _ _ w).2.2.2
          have hout : ∀ j, j < l.length ∨ l.length + (Lib.byteCells m).length ≤ j → (w.setCells g l.length (Lib.byteCells m)).cell? ⟨g, j, none⟩ = w.cell? ⟨g, j, none⟩ := fun j hj => World.cell?_setCells_out g _ _ w ⟨g, j, none⟩ (fun _ _ => hj)
          rw [Lib.byteCells_length] at hout
          refine .inr ⟨g, cap, by rw [List.length_append], h3, by omega, by rw [List.length_append]; exact hroom, h5, fun j hj => ⟨?_, ?_⟩, fun j u hu => ?_⟩
          · by_cases hb : j < l.length ∨ l.length + m.length ≤ j
            · rw [hout j hb]; exact (h6 j hj).1
            · have := hin (j - l.length) (by rw [Lib.byteCells_length]; omega)
              rw [show l.length + (j - l.length) = j by omega] at this
              rw [this]; rfl
          · rw [World.frozen?_setCells]; exact (h6 j hj).2
          · rw [Lib.byteCells_append] at hu
            by_cases hb : j < l.length
            · rw [List.getElem?_append_left (by rw [Lib.byteCells_length]; exact hb)] at hu
              rw [hout j (.inl hb)]
              exact h7 j u hu
            · rw [List.getElem?_append_right (by rw [Lib.byteCells_length]; omega), Lib.byteCells_length] at hu
              have hjm : j - l.length < (Lib.byteCells m).length := (List.getElem?_eq_some_iff.1 hu).1
              have := hin (j - l.length) hjm
              rw [show l.length + (j - l.length) = j by omega] at this
              rw [this, ← hu, List.getElem?_eq_getElem hjm]
        · have hs := setCells_same g (Lib.byteCells m) l.length w
          exact ⟨hs.1, hs.2.1, hs.2.2.1, Nat.le_of_eq hs.2.2.2.symm, fun k _ hk => setCells_far _ _ k (fun e => hk (by simp [Value.ownBlock, e]))⟩
      · have hr := run_append_grow (P := Tryz.prog) w 25 ty 5 i (.int .u8 0) ht hi hz ⟨g, 0, none⟩ l.length cap (Lib.byteCells l) (by rw [Lib.byteCells_length, h1, Nat.mul_one]) (fun j u hu => by rw [add_plain]; exact h7 j u hu) ad m.length c (Lib.byteCells m) hl hnews (by omega) (by omega) (growslice_fits (by omega) (by rw [h2]; omega))
        refine ⟨_, _, hr, ?_, ⟨rfl, rfl, rfl, by simp, fun k hk _ => heap_alloc_old w.drew _ hk⟩, .inr rfl⟩
        have hge := grownCap_ge w (l.length + m.length) cap 5
        have hcm := grownCap_le_maxLen w (l.length + m.length) cap 5 (by simp only [maxLen]; omega)
        simp only [maxLen] at hcm
        have := Bin.alloc_row hB (l ++ m) (grownCap w (l.length + m.length) cap 5) (by simpa using hge) hcm
        rw [Lib.byteCells_append, ← List.append_toArray, List.length_append] at this
        exact this

section
variable {w : World}
theorem wp_append_bin {o : Oper} {a : Act} {K : Act → World → Prop} {Q : Exit → Act → World → Prop} (s x : Operand)
    (ho : o.op = .call { callee := .builtin .append, args := #[s, x], argTypes := #[25, 25] })
    (B : Nat) (v xv : Value) (l m : Bytes) (hs : a.eval s = v) (hx : a.eval x = xv) (hv : Bin w B v l) (hxr : RB w xv m) (hlen : l.length + m.length ≤ 140737488355328) (hB : B ≤ w.heap.size)
    (h : ∀ v' w', Bin w' B v' (l ++ m) → w.grownBy w' v.ownBlock → (v'.ownBlock = v.ownBlock ∨ v'.ownBlock = some w.heap.size) → K (a.put o.dst v') w') : o.wp Tryz.prog a w K Q := by
  obtain ⟨v', w', hrun, h2, h3, h4⟩ := run_append_bin hB hv hxr hlen o.type
  unfold Oper.wp execOp
  simp only [ho, resolve, invoke, builtin, Sem.run_bind, Sem.run_pure, Result.andThen_ok, List.map_toArray, List.map_cons, List.map_nil, hs, hx, hrun]
  exact h v' w' h2 h3 h4
/-- 'append(s, x...)' of bytes; behind 'at_builtin'. -/
theorem wpList_append_bin {ops : Array Oper} {rest : List Oper} {o : Oper} {a : Act} {Q : Exit → Act → World → Prop} (hgd : o.guard = none) (s x : Operand)
    (ho : o.op = .call { callee := .builtin .append, args := #[s, x], argTypes := #[25, 25] })
    (B : Nat) (v xv : Value) (l m : Bytes) (hs : a.eval s = v) (hx : a.eval x = xv) (hv : Bin w B v l) (hxr : RB w xv m) (hlen : l.length + m.length ≤ 140737488355328) (hB : B ≤ w.heap.size)
    (h : ∀ v' w', Bin w' B v' (l ++ m) → w.grownBy w' v.ownBlock → (v'.ownBlock = v.ownBlock ∨ v'.ownBlock = some w.heap.size) → wpList Tryz.prog ops Q rest (a.put o.dst v') w') : wpList Tryz.prog ops Q (o :: rest) a w :=
  wpList_plain hgd fun _ hK => wp_append_bin s x ho B v xv l m hs hx hv hxr hlen hB fun v' w' h2 h3 h4 => hK _ _ (h v' w' h2 h3 h4)
theorem step_append_bin {ops : Array Oper} {o : Oper} {a : Act} {K : Act → World → Prop} {Q : Exit → Act → World → Prop} {E : Prop} (hgd : o.guard = none) (s x : Operand)
    (ho : o.op = .call { callee := .builtin .append, args := #[s, x], argTypes := #[25, 25] })
    (B : Nat) (v xv : Value) (l m : Bytes) (hs : a.eval s = v) (hx : a.eval x = xv) (hv : Bin w B v l) (hxr : RB w xv m) (hlen : l.length + m.length ≤ 140737488355328) (hB : B ≤ w.heap.size)
    (h : ∀ v' w', Bin w' B v' (l ++ m) → w.grownBy w' v.ownBlock → (v'.ownBlock = v.ownBlock ∨ v'.ownBlock = some w.heap.size) → K (a.put o.dst v') w') :
    if Region.wanted o (yielded ops a.tmps) = true then Oper.wp Tryz.prog o a w K Q else E := by
  have hw : Region.wanted o (yielded ops a.tmps) = true := by simp [Region.wanted, hgd]
  rw [if_pos hw]
  exact wp_append_bin s x ho B v xv l m hs hx hv hxr hlen hB h
end

/-- What a step on one's own row leaves, seen from the walk's first world. -/
theorem below_grown' {w0 w w' : World} {v : Value} {l : Bytes} (h : Below w0.heap.size w0 w) (hv : Bin w w0.heap.size v l) (hg : w.grownBy w' v.ownBlock) : Below w0.heap.size w0 w' :=
  h.grown hg h.size fun k hk => hv.base k hk

/-- '[]byte(s)'. -/
theorem run_conv_bin (s : ByteArray) (w : World) (hs : s.size ≤ 140737488355328) :
    ∃ v w', (convert 9 25 (.string s)).run Tryz.prog w = .ok v w' ∧ (∀ B, B ≤ w.heap.size → Bin w' B v s.data.toList) ∧ Below w.heap.size w w' := by
  refine ⟨_, _, Lib.run_convert_string_bytes w 9 25 5 s Tryz.underlying9 Tryz.underlying25 Tryz.underlying5, fun B hB => ?_, bytes_below (Below.refl _ _) (Nat.le_refl _) 5 s⟩
  have hge := grownCap_ge w s.size 0 5
  have hcm := grownCap_le_maxLen w s.size 0 5 (by simp only [maxLen]; omega)
  simp only [maxLen] at hcm
  have hnew := Lib.bytesWorld_at_new w 5 s
  have hsz : (Lib.bytesCells w 5 s).size = grownCap w s.size 0 5 := by
    simp only [Lib.bytesCells, Array.size_append, Array.size_map, Array.size_replicate]
    show s.size + _ = _
    omega
  have hl : s.data.toList.length = s.size := data_length s
  refine .inr ⟨w.heap.size, _, by rw [hl], hB, by rw [Lib.bytesWorld_size]; omega, by rw [hl]; exact hge, hcm, fun j hj => ⟨?_, ?_⟩, fun j u hu => ?_⟩
  · simp only [World.cell?, hnew]
    rw [Array.getElem?_eq_getElem (by omega)]; rfl
  · simp only [World.frozen?, hnew, hsz]
    simp; omega
  · have hj : j < (Lib.byteCells s.data.toList).length := (List.getElem?_eq_some_iff.1 hu).1
    rw [Lib.byteCells_length, hl] at hj
    rw [Lib.bytesWorld_cell w 5 s j hj, ← hu, byteCells_get _ _ (by omega)]
    simp [List.getD_eq_getElem?_getD, List.getElem?_eq_getElem (show j < s.data.toList.length by omega)]
theorem size5' (W : World) : (sizeOf 5).run Tryz.prog W = .ok 1 W := by
  obtain ⟨i, hi, hz, h1, h2⟩ := info_parts info5
  simp [sizeOf, typeInfo, hi, h1]
theorem RB.ints {w : World} {A : Option Addr} {n c : Nat} {l : Bytes} (h : RB w (.slice A n c) l) : n = l.length ∧ n ≤ c ∧ ReadsInt w .u8 A n (ints l) := by
  obtain ⟨A', c', hv, h1, h2, h3⟩ := h
  injection hv with e1 e2 e3
  subst e1 e2 e3
  refine ⟨rfl, h1, ints_length l, h2, fun hn => ?_⟩
  obtain ⟨ad, hA, hc⟩ := h3 hn
  refine ⟨ad, hA, fun j hj => ?_⟩
  rw [hc j _ (byteCells_get l j hj)]
  simp [PA.ints, List.getD_eq_getElem?_getD, List.getElem?_eq_getElem hj]
theorem strOfNums_ints (l : Bytes) : strOfNums (ints l) = str l := by
  have hm : (ints l).map (fun n => UInt8.ofNat n.toNat) = l := by
    unfold ints
    rw [List.map_map]
    exact (List.map_congr_left (fun b _ => by simp)).trans (List.map_id l)
  exact congrArg (fun q : Bytes => (⟨q.toArray⟩ : ByteArray)) hm
/-- 'string(b)'. -/
theorem conv_string {w : World} {v : Value} {l : Bytes} (h : RB w v l) : (convert 25 9 v).run Tryz.prog w = .ok (.string (str l)) w := by
  obtain ⟨A, c, rfl, _⟩ := id h
  rw [string_of_reads Tryz.underlying25 Tryz.underlying5 Tryz.underlying9 h.ints.2.2, strOfNums_ints]
theorem conv_reads {w : World} {s : ByteArray} (hs : s.size ≤ 140737488355328) : RB (Lib.bytesWorld w 5 s) (.slice (some ⟨w.heap.size, 0, none⟩) s.size (grownCap w s.size 0 5)) s.data.toList := by
  obtain ⟨v, w', hr, hb, _⟩ := run_conv_bin s w hs
  rw [Lib.run_convert_string_bytes w 9 25 5 s Tryz.underlying9 Tryz.underlying25 Tryz.underlying5] at hr
  obtain ⟨rfl, rfl⟩ : v = _ ∧ w' = _ := by injection hr with h1 h2; exact ⟨h1.symm, h2.symm⟩
  exact (hb 0 (by omega)).reads
end Go.Proofs.YtkmcbpkciakmeaaGreatDoor.PA

/- copy into a row of bytes of the call's own, out of a text or a slice: the row alone is written. -/
set_option linter.unusedVariables false
set_option linter.unusedSimpArgs false
namespace Go.Proofs.YtkmcbpkciakmeaaGreatDoor.PA
open Go.RowKit Go.Proofs.YtkmcbpkciakmeaaGreatDoorW.PrintWords Go.Proofs.YtkmcbpkciakmeaaGreatDoorW.PrintLast Go.Proofs.YtkmcbpkciakmeaaGreatDoorW.PrintMore

/-- Block g is a row of exactly the bytes l. -/
def Row (w : World) (g : Nat) (l : Bytes) : Prop := w.heap[g]? = some (.cells (Lib.byteCells l).toArray 5 (0, 0))
/-- m laid over l from a place on. -/
def lay (l : Bytes) (off : Nat) (m : Bytes) : Bytes := l.take off ++ (m ++ l.drop (off + m.length))
theorem lay_length (l : Bytes) (off : Nat) (m : Bytes) (h : off + m.length ≤ l.length) : (lay l off m).length = l.length := by
  unfold lay; simp; omega
theorem byteCells_take (l : Bytes) (n : Nat) : (Lib.byteCells l).take n = Lib.byteCells (l.take n) := by simp [Lib.byteCells, List.map_take]
theorem byteCells_drop (l : Bytes) (n : Nat) : (Lib.byteCells l).drop n = Lib.byteCells (l.drop n) := by simp [Lib.byteCells, List.map_drop]
theorem byteCells_lay (l : Bytes) (off : Nat) (m : Bytes) : (Lib.byteCells l).take off ++ (Lib.byteCells m) ++ (Lib.byteCells l).drop (off + m.length) = Lib.byteCells (lay l off m) := by
  unfold lay
  rw [byteCells_take, byteCells_drop, Lib.byteCells_append, Lib.byteCells_append, List.append_assoc]
theorem Row.keep {w w' : World} {g : Nat} {l : Bytes} (h : Row w g l) (hk : w'.heap[g]? = w.heap[g]?) : Row w' g l := hk.trans h
theorem Row.lt {w : World} {g : Nat} {l : Bytes} (h : Row w g l) : g < w.heap.size := blk_lt h
theorem Row.reads {w : World} {g : Nat} {l : Bytes} (h : Row w g l) (c : Nat) (hc : l.length ≤ c) (hl : l.length ≤ 9223372036854775807) : RB w (.slice (some ⟨g, 0, none⟩) l.length c) l := by
  refine ⟨_, c, rfl, hc, hl, fun _ => ⟨_, rfl, fun j u hu => ?_⟩⟩
  rw [add_plain, cell_of_row w g j _ 5 (0, 0) h]
  simpa using hu
theorem Row.bin {w : World} {g B : Nat} {l : Bytes} (h : Row w g l) (hB : B ≤ g) (hl : l.length ≤ 9223372036854775807) : Bin w B (.slice (some ⟨g, 0, none⟩) l.length l.length) l := by
  refine .inr ⟨g, l.length, rfl, hB, h.lt, Nat.le_refl _, hl, fun j hj => ⟨?_, ?_⟩, fun j u hu => ?_⟩
  · rw [cell_of_row w g j _ 5 (0, 0) h, Array.getElem?_eq_getElem (by simpa [Lib.byteCells_length] using hj)]; rfl
  · simp [World.frozen?, show w.heap[g]? = _ from h]
  · rw [cell_of_row w g j _ 5 (0, 0) h]; simpa using hu

theorem size5o : (Tryz.prog.info? 5).map (·.size) = some 1 := by kernel_rfl
theorem run_copy_str (w : World) (ty : TypeId) (g off n cap : Nat) (t : ByteArray) (l : Bytes) (hrow : Row w g l) (hfit : off + n ≤ l.length) :
    (Builtin.copy_ #[25, 9] ty #[.slice (some ⟨g, off, none⟩) n cap, .string t]).run Tryz.prog w =
      .ok (goInt (Nat.min t.size n)) (w.setRow g (Lib.byteCells (lay l off (t.data.toList.take n))).toArray) := by
  have hu := Tryz.underlying25
  have hle : (t.data.toList.take n).length = Nat.min t.size n := by rw [List.length_take, data_length]; exact Nat.min_comm _ _
  have hln : (t.data.toList.take n).length ≤ n := by rw [List.length_take]; omega
  have hst := run_storeCells_at Tryz.prog g off 5 (Lib.byteCells (t.data.toList.take n)) 0 (Lib.byteCells l).toArray w hrow (by rw [Lib.byteCells_length]; simp [Lib.byteCells_length]; omega) (byteCells_one _)
  simp only [Nat.add_zero] at hst
  have htk : List.take (Nat.min t.size n) (List.map (fun b : UInt8 => Value.int IntKind.u8 (b.toNat : Int)) t.data.toList) = Lib.byteCells (t.data.toList.take n) := by
    rw [Lib.byteCells, List.map_take, show Nat.min t.size n = min n (List.map (fun b : UInt8 => Value.int IntKind.u8 (b.toNat : Int)) t.data.toList).length from by rw [List.length_map, data_length]; exact Nat.min_comm _ _, List.take_eq_take_min.symm]
  cases hq : Tryz.prog.info? 5 with
  | none => have := size5o; simp [hq] at this
  | some i =>
    simp [Builtin.copy_, run_underlying hu, Builtin.lenOf, Builtin.firstCells, sizeOf, typeInfo, hq]
    rw [htk, hst]
    rw [Lib.byteCells_length]
    simp only [List.toList_toArray, Result.andThen]
    rw [byteCells_lay]
theorem run_copy_bin (w : World) (ty : TypeId) (g off n cap : Nat) (x : Value) (m l : Bytes) (hx : RB w x m) (hm : 0 < m.length) (hmn : m.length ≤ n) (hrow : Row w g l) (hfit : off + n ≤ l.length) :
    (Builtin.copy_ #[25, 25] ty #[.slice (some ⟨g, off, none⟩) n cap, x]).run Tryz.prog w =
      .ok (goInt m.length) (w.setRow g (Lib.byteCells (lay l off m)).toArray) := by
  obtain ⟨A, c, rfl, h1, h2, h3⟩ := hx
  obtain ⟨ad, rfl, hsrc⟩ := h3 hm
  have := run_copy_row (P := Tryz.prog) w 25 25 ty 5 g off n cap ad m.length c (Lib.byteCells l).toArray 5 (Lib.byteCells m) Tryz.underlying25 size5o hrow (by rw [Lib.byteCells_length]; exact (Nat.min_eq_left hmn).symm) hsrc (by simp [Lib.byteCells_length]; omega) (byteCells_one m)
  rw [this, Lib.byteCells_length]
  simp only [List.toList_toArray]
  rw [byteCells_lay]

/-- What a write of one row leaves. -/
structure Only (w w' : World) (g : Nat) : Prop where
  below : ∀ B w0, Below B w0 w → B ≤ g → Below B w0 w'
  other : ∀ k, k ≠ g → w'.heap[k]? = w.heap[k]?
  size : w'.heap.size = w.heap.size
theorem Only.cell {w w' : World} {g : Nat} (h : Only w w' g) {p : Addr} (hp : p.block ≠ g) : w'.cell? p = w.cell? p := World.cell?_of_block (h.other _ hp)
theorem only_setRow (w : World) (g : Nat) (cs : Array Value) : Only w (w.setRow g cs) g :=
  ⟨fun B w0 hb hg => below_setRow hb hg _, fun k hk => setRow_other w g k _ hk, by simp [World.setRow]⟩
theorem row_setRow {w : World} {g : Nat} {l : Bytes} (h : Row w g l) (l' : Bytes) : Row (w.setRow g (Lib.byteCells l').toArray) g l' := setRow_heap w g _ _ 5 (0, 0) h

section
variable {w : World}
theorem wp_copy_str {o : Oper} {a : Act} {K : Act → World → Prop} {Q : Exit → Act → World → Prop} (d s : Operand)
    (ho : o.op = .call { callee := .builtin .copy, args := #[d, s], argTypes := #[25, 9] })
    (g off n cap : Nat) (t : ByteArray) (l : Bytes) (hd : a.eval d = .slice (some ⟨g, off, none⟩) n cap) (hs : a.eval s = .string t) (hrow : Row w g l) (hfit : off + n ≤ l.length)
    (h : ∀ w', Row w' g (lay l off (t.data.toList.take n)) → Only w w' g → K (a.put o.dst (goInt (Nat.min t.size n))) w') : o.wp Tryz.prog a w K Q := by
  have hrun := run_copy_str w o.type g off n cap t l hrow hfit
  unfold Oper.wp execOp
  simp only [ho, resolve, invoke, builtin, Sem.run_bind, Sem.run_pure, Result.andThen_ok, List.map_toArray, List.map_cons, List.map_nil, hs, hd, hrun]
  exact h _ (row_setRow hrow _) (only_setRow w g _)
theorem wpList_copy_str {ops : Array Oper} {rest : List Oper} {o : Oper} {a : Act} {Q : Exit → Act → World → Prop} (hgd : o.guard = none) (d s : Operand)
    (ho : o.op = .call { callee := .builtin .copy, args := #[d, s], argTypes := #[25, 9] })
    (g off n cap : Nat) (t : ByteArray) (l : Bytes) (hd : a.eval d = .slice (some ⟨g, off, none⟩) n cap) (hs : a.eval s = .string t) (hrow : Row w g l) (hfit : off + n ≤ l.length)
    (h : ∀ w', Row w' g (lay l off (t.data.toList.take n)) → Only w w' g → wpList Tryz.prog ops Q rest (a.put o.dst (goInt (Nat.min t.size n))) w') : wpList Tryz.prog ops Q (o :: rest) a w :=
  wpList_plain hgd fun _ hK => wp_copy_str d s ho g off n cap t l hd hs hrow hfit fun w' h2 h3 => hK _ _ (h w' h2 h3)
theorem step_copy_str {ops : Array Oper} {o : Oper} {a : Act} {K : Act → World → Prop} {Q : Exit → Act → World → Prop} {E : Prop} (hgd : o.guard = none) (d s : Operand)
    (ho : o.op = .call { callee := .builtin .copy, args := #[d, s], argTypes := #[25, 9] })
    (g off n cap : Nat) (t : ByteArray) (l : Bytes) (hd : a.eval d = .slice (some ⟨g, off, none⟩) n cap) (hs : a.eval s = .string t) (hrow : Row w g l) (hfit : off + n ≤ l.length)
    (h : ∀ w', Row w' g (lay l off (t.data.toList.take n)) → Only w w' g → K (a.put o.dst (goInt (Nat.min t.size n))) w') :
    if Region.wanted o (yielded ops a.tmps) = true then Oper.wp Tryz.prog o a w K Q else E := by
  have hw : Region.wanted o (yielded ops a.tmps) = true := by simp [Region.wanted, hgd]
  rw [if_pos hw]
  exact wp_copy_str d s ho g off n cap t l hd hs hrow hfit h
theorem wp_copy_bin {o : Oper} {a : Act} {K : Act → World → Prop} {Q : Exit → Act → World → Prop} (d s : Operand)
    (ho : o.op = .call { callee := .builtin .copy, args := #[d, s], argTypes := #[25, 25] })
    (g off n cap : Nat) (x : Value) (m l : Bytes) (hd : a.eval d = .slice (some ⟨g, off, none⟩) n cap) (hs : a.eval s = x) (hx : RB w x m) (hm : 0 < m.length) (hmn : m.length ≤ n) (hrow : Row w g l) (hfit : off + n ≤ l.length)
    (h : ∀ w', Row w' g (lay l off m) → Only w w' g → K (a.put o.dst (goInt m.length)) w') : o.wp Tryz.prog a w K Q := by
  have hrun := run_copy_bin w o.type g off n cap x m l hx hm hmn hrow hfit
  unfold Oper.wp execOp
  simp only [ho, resolve, invoke, builtin, Sem.run_bind, Sem.run_pure, Result.andThen_ok, List.map_toArray, List.map_cons, List.map_nil, hs, hd, hrun]
  exact h _ (row_setRow hrow _) (only_setRow w g _)
theorem wpList_copy_bin {ops : Array Oper} {rest : List Oper} {o : Oper} {a : Act} {Q : Exit → Act → World → Prop} (hgd : o.guard = none) (d s : Operand)
    (ho : o.op = .call { callee := .builtin .copy, args := #[d, s], argTypes := #[25, 25] })
    (g off n cap : Nat) (x : Value) (m l : Bytes) (hd : a.eval d = .slice (some ⟨g, off, none⟩) n cap) (hs : a.eval s = x) (hx : RB w x m) (hm : 0 < m.length) (hmn : m.length ≤ n) (hrow : Row w g l) (hfit : off + n ≤ l.length)
    (h : ∀ w', Row w' g (lay l off m) → Only w w' g → wpList Tryz.prog ops Q rest (a.put o.dst (goInt m.length)) w') : wpList Tryz.prog ops Q (o :: rest) a w :=
  wpList_plain hgd fun _ hK => wp_copy_bin d s ho g off n cap x m l hd hs hx hm hmn hrow hfit fun w' h2 h3 => hK _ _ (h w' h2 h3)
end
end Go.Proofs.YtkmcbpkciakmeaaGreatDoor.PA

/- fields.digits answers the number of the leading digits below a base (8 or 10) and how many they are, of every string; it makes one block and turns nothing. -/
namespace Go.Proofs.YtkmcbpkciakmeaaGreatDoor.PA
open Go.RowKit Go.Proofs.YtkmcbpkciakmeaaGreatDoorW.PrintWords Go.Proofs.YtkmcbpkciakmeaaGreatDoorW.PrintLast Go.Proofs.YtkmcbpkciakmeaaGreatDoorW.PrintMore

/-- A number with one digit more; below 0: it is above 2^62, or was. -/
def addB (base v d : Int) : Int := if v < 0 ∨ v > (4611686018427387904 - d) / base then -1 else v * base + d
def digs (base : Int) : List UInt8 → Int → Int → Int × Int
  | [], v, m => (v, m)
  | c :: r, v, m => if 48 ≤ (c.toNat : Int) ∧ (c.toNat : Int) - 48 < base then digs base r (addB base v ((c.toNat : Int) - 48)) (m + 1) else (v, m)

theorem addB_range (base v d : Int) (hb : base = 8 ∨ base = 10) (hd : 0 ≤ d) (hd' : d < base) (h0 : -1 ≤ v) (h1 : v ≤ 4611686018427387904) : -1 ≤ addB base v d ∧ addB base v d ≤ 4611686018427387904 := by
  unfold addB
  rcases hb with rfl | rfl <;> split <;> omega

theorem drop_at (s : ByteArray) (p : Nat) (h : p < s.size) : s.data.toList.drop p = s[p] :: s.data.toList.drop (p + 1) := by
  rw [List.drop_eq_getElem_cons (by simpa using h)]
  rfl

structure DigsAt (base : Int) (s : ByteArray) (pos : Nat) (v m : Int) : Prop where
  eq : digs base (s.data.toList.drop pos) v m = digs base s.data.toList 0 0
  le : pos ≤ s.size
  m : m = pos
  v0 : -1 ≤ v
  v1 : v ≤ 4611686018427387904


theorem DigsAt.fin {base : Int} {s : ByteArray} {pos : Nat} {v m : Int} (h : DigsAt base s pos v m) (hp : ¬ pos < s.size) : (v, m) = digs base s.data.toList 0 0 := by
  rw [← h.eq, List.drop_eq_nil_of_le (by have := h.le; simp; omega)]
  rfl
/-- One byte on: it is a digit, or the reading ends. -/
theorem DigsAt.step {base : Int} {s : ByteArray} {pos : Nat} {v m : Int} (h : DigsAt base s pos v m) (hp : pos < s.size) :
    (48 ≤ s[pos].toNat → (s[pos].toNat : Int) < 48 + base → base = 8 ∨ base = 10 → DigsAt base s (pos + 1) (addB base v ((s[pos].toNat : Int) - 48)) (m + 1)) ∧
    (¬ (48 ≤ s[pos].toNat ∧ (s[pos].toNat : Int) < 48 + base) → (v, m) = digs base s.data.toList 0 0) := by
  have he := h.eq
  rw [drop_at s pos hp] at he
  simp only [digs] at he
  constructor
  · intro h1 h2 hb
    rw [if_pos ⟨by omega, by omega⟩] at he
    have hr := addB_range base v ((s[pos].toNat : Int) - 48) hb (by omega) (by omega) h.v0 h.v1
    exact ⟨he, by omega, by have := h.m; omega, hr.1, hr.2⟩
  · intro h1
    rw [if_neg (by omega)] at he
    exact he
set_option maxHeartbeats 2000000 in
set_option maxRecDepth 100000 in
theorem fields_digits_calls8 (s : ByteArray) (w : World) (hs : s.size ≤ 9223372036854775807) :
    Calls Tryz.prog 69 #[.string s, .int .i64 8] w fun e w' => e = .returned (.tuple #[.int .i64 (digs 8 s.data.toList 0 0).1, .int .i64 (digs 8 s.data.toList 0 0).2]) ∧ Below w.heap.size w w' := by
  go_enter Tryz.func69, Tryz.ntmps69
  go_wp2
  go_loopw [6, 7] (fun x6 x7 w' => ∃ (pos : Nat) (v m : Int), w' = w.iter s pos ∧ x6 = .int .i64 v ∧ x7 = .int .i64 m ∧ Aside0 (DigsAt 8 s pos v m)) (fun _ _ w' => s.size - w'.iterPos w.heap.size)
  case atStart => exact ⟨0, 0, 0, rfl, rfl, rfl, ⟨⟨by simp, by omega, rfl, by omega, by omega⟩⟩⟩
  case round =>
    obtain ⟨pos, v, m, rfl, rfl, rfl, hD⟩ := hrel
    have hv0 := hD.out.v0; have hv1 := hD.out.v1
    have hm0 : 0 ≤ m := by have := hD.out.m; omega
    have hm1 : m ≤ s.size := by have := hD.out.m; have := hD.out.le; omega
    by_cases hp : pos < s.size
    · by_cases ha : (s[pos]).toNat < 128
      · have hm1 : m < s.size := by have := hD.out.m; omega
        have hnx : ∀ ty, (Instr.next (.pointer (some ⟨w.heap.size, 0, none⟩)) true ty).run Tryz.prog (w.iter s pos) = _ := fun ty => run_next_ascii w s pos ty hp ha
        have HC := DigsAt.step hD.out hp
        obtain ⟨c, hc⟩ : ∃ c : Nat, s[pos].toNat = c := ⟨_, rfl⟩
        have HC' := Aside0.mk HC
        clear HC
        rw [hc] at hnx HC' ha
        clear hc
        by_cases h1 : 48 ≤ c ∧ c < 48 + 8
        · obtain ⟨h1, h2⟩ := h1
          have HS := Aside0.mk (HC'.out.1 h1 (by omega) (by first | exact .inl rfl | exact .inr rfl))
          clear HC'
          by_cases g1 : v < 0
          · have HV : Aside0 (addB 8 v ((c : Int) - 48) = v) := ⟨by unfold addB; rw [if_pos (.inl g1)]; omega⟩
            go_wp2
            go_roundw
            case rel => exact ⟨pos + 1, v, m + 1, rfl, rfl, rfl, ⟨by have := HS.out; rw [HV.out] at this; exact this⟩⟩
            case measure => simp; omega
          · have g1' : 0 ≤ v := by omega
            clear g1
            by_cases g2 : v > (4611686018427387904 - ((c : Int) - 48)) / 8
            · have HV : Aside0 (addB 8 v ((c : Int) - 48) = -1) := ⟨by unfold addB; rw [if_pos (.inr g2)]⟩
              go_wp2
              go_roundw
              case rel => exact ⟨pos + 1, -1, m + 1, rfl, rfl, rfl, ⟨by have := HS.out; rw [HV.out] at this; exact this⟩⟩
              case measure => simp; omega
            · have HV : Aside0 (addB 8 v ((c : Int) - 48) = v * 8 + ((c : Int) - 48)) := ⟨by unfold addB; rw [if_neg (by omega)]⟩
              go_wp2
              go_roundw
              case rel => exact ⟨pos + 1, _, m + 1, rfl, rfl, rfl, ⟨by have := HS.out; rw [HV.out] at this; exact this⟩⟩
              case measure => simp; omega
        · have HE := Aside0.mk (HC'.out.2 (by omega))
          clear HC'
          by_cases g1 : c < 48
          · go_wp2
            go_ret2
            exact ⟨by rw [← HE.out]; rfl, (Below.refl _ _).alloc (Nat.le_refl _) _⟩
          · have g2 : ¬ c < 48 + 8 := by omega
            go_wp2
            go_ret2
            exact ⟨by rw [← HE.out]; rfl, (Below.refl _ _).alloc (Nat.le_refl _) _⟩
      · have hnx : ∀ ty, (Instr.next (.pointer (some ⟨w.heap.size, 0, none⟩)) true ty).run Tryz.prog (w.iter s pos) = _ := fun ty => run_next_any w s pos ty hp
        have hc0 : 128 ≤ ((Utf8.decode s pos).1 : Int) := by have := (decode_high s pos hp (by omega)).1; omega
        have hc1 : ((Utf8.decode s pos).1 : Int) ≤ 2147483647 := by have := decode_le s pos; omega
        have HE := Aside0.mk ((DigsAt.step hD.out hp).2 (by omega))
        go_wp2
        go_ret2
        exact ⟨by rw [← HE.out]; rfl, (Below.refl _ _).alloc (Nat.le_refl _) _⟩
    · have hnx : ∀ ty, (Instr.next (.pointer (some ⟨w.heap.size, 0, none⟩)) true ty).run Tryz.prog (w.iter s pos) = _ := fun ty => run_next_end w s pos ty hp
      have HE := Aside0.mk (DigsAt.fin hD.out hp)
      go_wp2
      go_ret2
      exact ⟨by rw [← HE.out]; rfl, (Below.refl _ _).alloc (Nat.le_refl _) _⟩
set_option maxHeartbeats 2000000 in
set_option maxRecDepth 100000 in
theorem fields_digits_calls10 (s : ByteArray) (w : World) (hs : s.size ≤ 9223372036854775807) :
    Calls Tryz.prog 69 #[.string s, .int .i64 10] w fun e w' => e = .returned (.tuple #[.int .i64 (digs 10 s.data.toList 0 0).1, .int .i64 (digs 10 s.data.toList 0 0).2]) ∧ Below w.heap.size w w' := by
  go_enter Tryz.func69, Tryz.ntmps69
  go_wp2
  go_loopw [6, 7] (fun x6 x7 w' => ∃ (pos : Nat) (v m : Int), w' = w.iter s pos ∧ x6 = .int .i64 v ∧ x7 = .int .i64 m ∧ Aside0 (DigsAt 10 s pos v m)) (fun _ _ w' => s.size - w'.iterPos w.heap.size)
  case atStart => exact ⟨0, 0, 0, rfl, rfl, rfl, ⟨⟨by simp, by omega, rfl, by omega, by omega⟩⟩⟩
  case round =>
    obtain ⟨pos, v, m, rfl, rfl, rfl, hD⟩ := hrel
    have hv0 := hD.out.v0; have hv1 := hD.out.v1
    have hm0 : 0 ≤ m := by have := hD.out.m; omega
    have hm1 : m ≤ s.size := by have := hD.out.m; have := hD.out.le; omega
    by_cases hp : pos < s.size
    · by_cases ha : (s[pos]).toNat < 128
      · have hm1 : m < s.size := by have := hD.out.m; omega
        have hnx : ∀ ty, (Instr.next (.pointer (some ⟨w.heap.size, 0, none⟩)) true ty).run Tryz.prog (w.iter s pos) = _ := fun ty => run_next_ascii w s pos ty hp ha
        have HC := DigsAt.step hD.out hp
        obtain ⟨c, hc⟩ : ∃ c : Nat, s[pos].toNat = c := ⟨_, rfl⟩
        have HC' := Aside0.mk HC
        clear HC
        rw [hc] at hnx HC' ha
        clear hc
        by_cases h1 : 48 ≤ c ∧ c < 48 + 10
        · obtain ⟨h1, h2⟩ := h1
          have HS := Aside0.mk (HC'.out.1 h1 (by omega) (by first | exact .inl rfl | exact .inr rfl))
          clear HC'
          by_cases g1 : v < 0
          · have HV : Aside0 (addB 10 v ((c : Int) - 48) = v) := ⟨by unfold addB; rw [if_pos (.inl g1)]; omega⟩
            go_wp2
            go_roundw
            case rel => exact ⟨pos + 1, v, m + 1, rfl, rfl, rfl, ⟨by have := HS.out; rw [HV.out] at this; exact this⟩⟩
            case measure => simp; omega
          · have g1' : 0 ≤ v := by omega
            clear g1
            by_cases g2 : v > (4611686018427387904 - ((c : Int) - 48)) / 10
            · have HV : Aside0 (addB 10 v ((c : Int) - 48) = -1) := ⟨by unfold addB; rw [if_pos (.inr g2)]⟩
              go_wp2
              go_roundw
              case rel => exact ⟨pos + 1, -1, m + 1, rfl, rfl, rfl, ⟨by have := HS.out; rw [HV.out] at this; exact this⟩⟩
              case measure => simp; omega
            · have HV : Aside0 (addB 10 v ((c : Int) - 48) = v * 10 + ((c : Int) - 48)) := ⟨by unfold addB; rw [if_neg (by omega)]⟩
              go_wp2
              go_roundw
              case rel => exact ⟨pos + 1, _, m + 1, rfl, rfl, rfl, ⟨by have := HS.out; rw [HV.out] at this; exact this⟩⟩
              case measure => simp; omega
        · have HE := Aside0.mk (HC'.out.2 (by omega))
          clear HC'
          by_cases g1 : c < 48
          · go_wp2
            go_ret2
            exact ⟨by rw [← HE.out]; rfl, (Below.refl _ _).alloc (Nat.le_refl _) _⟩
          · have g2 : ¬ c < 48 + 10 := by omega
            go_wp2
            go_ret2
            exact ⟨by rw [← HE.out]; rfl, (Below.refl _ _).alloc (Nat.le_refl _) _⟩
      · have hnx : ∀ ty, (Instr.next (.pointer (some ⟨w.heap.size, 0, none⟩)) true ty).run Tryz.prog (w.iter s pos) = _ := fun ty => run_next_any w s pos ty hp
        have hc0 : 128 ≤ ((Utf8.decode s pos).1 : Int) := by have := (decode_high s pos hp (by omega)).1; omega
        have hc1 : ((Utf8.decode s pos).1 : Int) ≤ 2147483647 := by have := decode_le s pos; omega
        have HE := Aside0.mk ((DigsAt.step hD.out hp).2 (by omega))
        go_wp2
        go_ret2
        exact ⟨by rw [← HE.out]; rfl, (Below.refl _ _).alloc (Nat.le_refl _) _⟩
    · have hnx : ∀ ty, (Instr.next (.pointer (some ⟨w.heap.size, 0, none⟩)) true ty).run Tryz.prog (w.iter s pos) = _ := fun ty => run_next_end w s pos ty hp
      have HE := Aside0.mk (DigsAt.fin hD.out hp)
      go_wp2
      go_ret2
      exact ⟨by rw [← HE.out]; rfl, (Below.refl _ _).alloc (Nat.le_refl _) _⟩
end Go.Proofs.YtkmcbpkciakmeaaGreatDoor.PA

/- fields.Decimal answers the number that a text tells in decimal, or the error, of every text; it turns nothing that was there. -/
set_option linter.unusedVariables false
set_option linter.unusedSimpArgs false
namespace Go.Proofs.YtkmcbpkciakmeaaGreatDoor.PA
open Go.RowKit Go.Proofs.YtkmcbpkciakmeaaGreatDoorW.PrintWords Go.Proofs.YtkmcbpkciakmeaaGreatDoorW.PrintLast Go.Proofs.YtkmcbpkciakmeaaGreatDoorW.PrintMore

theorem digs_range (base : Int) (hb : base = 8 ∨ base = 10) : ∀ (l : Bytes) (v m : Int), -1 ≤ v → v ≤ 4611686018427387904 → 0 ≤ m →
    -1 ≤ (digs base l v m).1 ∧ (digs base l v m).1 ≤ 4611686018427387904 ∧ m ≤ (digs base l v m).2 ∧ (digs base l v m).2 ≤ m + l.length
  | [], v, m, h0, h1, h2 => by simp [digs]; omega
  | c :: r, v, m, h0, h1, h2 => by
    simp only [digs]
    split
    · rename_i h
      have ha := addB_range base v ((c.toNat : Int) - 48) hb (by omega) (by omega) h0 h1
      have := digs_range base hb r (addB base v ((c.toNat : Int) - 48)) (m + 1) ha.1 ha.2 (by omega)
      simp only [List.length_cons]
      omega
    · simp only [List.length_cons]; omega

/-- What Decimal answers, by the sign, the digits' number, how many they are and how many bytes there are. -/
def decEnd (p : Bool) (v m n : Int) : Int × Int := if m = 0 ∨ m < n then (0, 30) else if v < 0 then (0, 31) else if p then (-v, 0) else (v, 0)
def decS (l : Bytes) : Int × Int :=
  decEnd (Lib.hasPrefix l [45]) (digs 10 (Lib.trimPrefix l [45]) 0 0).1 (digs 10 (Lib.trimPrefix l [45]) 0 0).2 (Lib.trimPrefix l [45]).length

set_option maxHeartbeats 2000000 in
set_option maxRecDepth 100000 in
theorem decimal_core (s body : ByteArray) (p : Bool) (v m : Int) (w : World) (hv0 : -1 ≤ v) (hv1 : v ≤ 4611686018427387904) (hm0 : 0 ≤ m) (hm1 : m ≤ body.size) (hbs : body.size ≤ 9223372036854775807)
    (h1 : ∀ W, Calls Tryz.prog 68 #[.string s, .string ⟨#[45]⟩] W fun e w' => e = .returned (.tuple #[.string body, .bool p]) ∧ w' = W)
    (h2 : ∀ W, Calls Tryz.prog 69 #[.string body, .int .i64 10] W fun e w' => e = .returned (.tuple #[.int .i64 v, .int .i64 m]) ∧ Below W.heap.size W w') :
    Calls Tryz.prog 37 #[.string s] w fun e w' => e = .returned (.tuple #[.int .i64 (decEnd p v m body.size).1, .int .i64 (decEnd p v m body.size).2]) ∧ Below w.heap.size w w' := by
  have H1 := Aside0.mk h1
  have H2 := Aside0.mk h2
  clear h1 h2
  by_cases c1 : m = 0
  · have HE : Aside0 (decEnd p v m body.size = (0, 30)) := ⟨by unfold decEnd; rw [if_pos (.inl c1)]⟩
    subst c1
    go_enter Tryz.func37, Tryz.ntmps37
    go_wp2_with (first | (go_at_call 68; refine (H1.out _).mono ?_; rintro e w' ⟨rfl, rfl⟩) | (go_at_call 69; refine (H2.out _).mono ?_; rintro e w' ⟨rfl, hb⟩))
    go_ret2
    exact ⟨by rw [HE.out]; rfl, hb⟩
  · by_cases c2 : m < body.size
    · have HE : Aside0 (decEnd p v m body.size = (0, 30)) := ⟨by unfold decEnd; rw [if_pos (.inr c2)]⟩
      have c1' : (m == 0) = false := by simpa using c1
      clear c1
      go_enter Tryz.func37, Tryz.ntmps37
      go_wp2_with (first | (go_at_call 68; refine (H1.out _).mono ?_; rintro e w' ⟨rfl, rfl⟩) | (go_at_call 69; refine (H2.out _).mono ?_; rintro e w' ⟨rfl, hb⟩))
      go_ret2
      exact ⟨by rw [HE.out]; rfl, hb⟩
    · have c1' : (m == 0) = false := by simpa using c1
      by_cases c3 : v < 0
      · have HE : Aside0 (decEnd p v m body.size = (0, 31)) := ⟨by unfold decEnd; rw [if_neg (by omega), if_pos c3]⟩
        clear c1
        go_enter Tryz.func37, Tryz.ntmps37
        go_wp2_with (first | (go_at_call 68; refine (H1.out _).mono ?_; rintro e w' ⟨rfl, rfl⟩) | (go_at_call 69; refine (H2.out _).mono ?_; rintro e w' ⟨rfl, hb⟩))
        go_ret2
        exact ⟨by rw [HE.out]; rfl, hb⟩
      · cases p with
        | true =>
          have HE : Aside0 (decEnd true v m body.size = (-v, 0)) := ⟨by unfold decEnd; rw [if_neg (by omega), if_neg c3, if_pos rfl]⟩
          clear c1
          go_enter Tryz.func37, Tryz.ntmps37
          go_wp2_with (first | (go_at_call 68; refine (H1.out _).mono ?_; rintro e w' ⟨rfl, rfl⟩) | (go_at_call 69; refine (H2.out _).mono ?_; rintro e w' ⟨rfl, hb⟩))
          go_ret2
          exact ⟨by rw [HE.out]; rfl, hb⟩
        | false =>
          have HE : Aside0 (decEnd false v m body.size = (v, 0)) := ⟨by unfold decEnd; rw [if_neg (by omega), if_neg c3, if_neg (by decide)]⟩
          clear c1
          go_enter Tryz.func37, Tryz.ntmps37
          go_wp2_with (first | (go_at_call 68; refine (H1.out _).mono ?_; rintro e w' ⟨rfl, rfl⟩) | (go_at_call 69; refine (H2.out _).mono ?_; rintro e w' ⟨rfl, hb⟩))
          go_ret2
          exact ⟨by rw [HE.out]; rfl, hb⟩

theorem decimal_calls (s : ByteArray) (w : World) (hs : s.size ≤ 9223372036854775807) :
    Calls Tryz.prog 37 #[.string s] w fun e w' => e = .returned (.tuple #[.int .i64 (decS s.data.toList).1, .int .i64 (decS s.data.toList).2]) ∧ Below w.heap.size w w' := by
  have hl : (str (Lib.trimPrefix s.data.toList [45])).size = (Lib.trimPrefix s.data.toList [45]).length := str_size _
  have hle : (Lib.trimPrefix s.data.toList [45]).length ≤ s.size := by rw [size_data]; exact Lib.trimPrefix_le _ _
  have hr := digs_range 10 (.inr rfl) (Lib.trimPrefix s.data.toList [45]) 0 0 (by omega) (by omega) (by omega)
  have h := decimal_core s (str (Lib.trimPrefix s.data.toList [45])) (Lib.hasPrefix s.data.toList [45]) _ _ w hr.1 hr.2.1 hr.2.2.1 (by omega) (by omega)
    (fun W => Tryz.strings_CutPrefix s ⟨#[45]⟩ W) (fun W => fields_digits_calls10 _ W (by omega))
  rw [hl] at h
  exact h
end Go.Proofs.YtkmcbpkciakmeaaGreatDoor.PA

/- strconv.FormatInt at base 8 answers the octal digits of every number from 0 on; new blocks alone. -/
set_option linter.unusedVariables false
set_option linter.unusedSimpArgs false
namespace Go.Proofs.YtkmcbpkciakmeaaGreatDoor.PA
open Go.RowKit Go.Proofs.YtkmcbpkciakmeaaGreatDoorW.PrintWords Go.Proofs.YtkmcbpkciakmeaaGreatDoorW.PrintLast Go.Proofs.YtkmcbpkciakmeaaGreatDoorW.PrintMore

theorem tz64_8 (w : World) (h : w.cell? ⟨5, 7, none⟩ = some (.int .u8 3)) : Calls Tryz.prog 177 #[.int .u64 8] w fun e w' => e = .returned (.int .i64 3) ∧ w' = w := by
  have e1 : bits BinOp.and IntKind.u64 8 (IntKind.u64.wrap (-8)) = 8 := by decide
  have e2 : IntKind.u64.wrap (8 * 285870213051353865) / 288230376151711744 = 7 := by decide
  go_enter Tryz.func177, Tryz.ntmps177
  go_wp2
  go_ret
  exact ⟨rfl, rfl⟩
theorem isPow8 (w : World) : Calls Tryz.prog 162 #[.int .i64 8] w fun e w' => e = .returned (.bool true) ∧ w' = w := by
  go_enter Tryz.func162, Tryz.ntmps162
  go_wp2
  go_ret
  exact ⟨rfl, rfl⟩
theorem tz_8 (w : World) (h : w.cell? ⟨5, 7, none⟩ = some (.int .u8 3)) : Calls Tryz.prog 163 #[.int .u64 8] w fun e w' => e = .returned (.int .i64 3) ∧ w' = w := by
  have H := tz64_8 w h
  go_enter Tryz.func163, Tryz.ntmps163
  go_wp2_with (first | (go_at_call 177; refine H.mono ?_; rintro e w' ⟨rfl, rfl⟩))
  go_ret
  exact ⟨rfl, rfl⟩
theorem size171 : Tryz.zeroCells171.size = 65 := by kernel_rfl

/-- The octal digits of a number. -/
def octL (u : Nat) : Bytes := if h : u < 8 then [UInt8.ofNat (48 + u)] else octL (u / 8) ++ [UInt8.ofNat (48 + u % 8)]
decreasing_by omega

theorem octL_ge {v : Nat} (h : 8 ≤ v) : octL v = octL (v / 8) ++ [UInt8.ofNat (48 + v % 8)] := by
  rw [octL, dif_neg (by omega)]
theorem octL_lt {v : Nat} (h : v < 8) : octL v = [UInt8.ofNat (48 + v)] := by
  rw [octL, dif_pos h]
theorem drop_set (cs : Array Value) (j : Nat) (x : Value) (h : j < cs.size) : (cs.setIfInBounds j x).toList.drop j = x :: cs.toList.drop (j + 1) := by
  rw [Array.toList_setIfInBounds, List.drop_eq_getElem_cons (by simpa using h)]
  simp [List.drop_set_of_lt]
theorem byte48 (d : Nat) (h : d < 8) : (Value.int .u8 ((UInt8.ofNat (48 + d)).toNat : Int)) = .int .u8 ((48 + d : Nat) : Int) := by
  have : (UInt8.ofNat (48 + d)).toNat = 48 + d := by simp; omega
  rw [this]
theorem dig_at (d : Nat) (h : d < 8) : ∀ h2, ((⟨#[48, 49, 50, 51, 52, 53, 54, 55, 56, 57, 97, 98, 99, 100, 101, 102, 103, 104, 105, 106, 107, 108, 109, 110, 111, 112, 113, 114, 115, 116, 117, 118, 119, 120, 121, 122]⟩ : ByteArray)[d]'h2).toNat = 48 + d := by
  intro h2
  rcases (by omega : d = 0 ∨ d = 1 ∨ d = 2 ∨ d = 3 ∨ d = 4 ∨ d = 5 ∨ d = 6 ∨ d = 7) with rfl | rfl | rfl | rfl | rfl | rfl | rfl | rfl <;> rfl
theorem pow_room {v n : Nat} (hv : 8 ≤ v) (h : v < 8 ^ n) : 2 ≤ n ∧ v / 8 < 8 ^ (n - 1) := by
  match n, h with
  | 0, h => simp at h; omega
  | 1, h => simp at h; omega
  | n + 2, h => exact ⟨by omega, by simp only [Nat.add_succ_sub_one]; rw [Nat.pow_succ] at h; exact Nat.div_lt_of_lt_mul (by omega)⟩
theorem alen171 : Tryz.prog.arrayLen 171 = 65 := by kernel_rfl
theorem elem171 : Tryz.prog.elem 171 = 5 := by kernel_rfl
theorem size5 (W : World) : (sizeOf 5).run Tryz.prog W = .ok 1 W := by
  obtain ⟨i, hi, hz, h1, h2⟩ := info_parts info5
  simp [sizeOf, typeInfo, hi, h1]
/-- string(a[j:]), the row's cells from j on the bytes l. -/
theorem string_of_row {src dst e t : TypeId} {W : World} {g j n : Nat} {cs : Array Value} {l : Bytes} {fz : Nat × Nat} (hs : Tryz.prog.underlying src = some (.slice e)) (he : Tryz.prog.underlying e = some (.int .u8)) (hd : Tryz.prog.underlying dst = some .string)
    (hrow : W.heap[g]? = some (.cells cs t fz)) (hl : l.length = n) (hn : n ≤ 9223372036854775807) (hc : (cs.toList.drop j).take n = Lib.byteCells l) (c : Nat) :
    (convert src dst (.slice (some ⟨g, j, none⟩) n c)).run Tryz.prog W = .ok (.string (str l)) W := by
  have h : ReadsInt W .u8 (some ⟨g, j, none⟩) n (l.map fun b => (b.toNat : Int)) := by
    refine ⟨by simp [hl], ?_, fun hn => ⟨_, rfl, fun k hk => ?_⟩⟩
    · exact hn
    · rw [add_at, cell_of_row W g (j + k) cs t fz hrow]
      have h1 : ((cs.toList.drop j).take n)[k]? = (Lib.byteCells l)[k]? := by rw [hc]
      rw [List.getElem?_take_of_lt hk, List.getElem?_drop, Array.getElem?_toList] at h1
      rw [h1, Lib.byteCells, List.getElem?_map, List.getD_eq_getElem?_getD, List.getElem?_map, List.getElem?_eq_getElem (by omega)]
      rfl
  rw [string_of_reads hs he hd h]
  have hm : (l.map fun b => (b.toNat : Int)).map (fun n => UInt8.ofNat n.toNat) = l := by
    rw [List.map_map]
    exact (List.map_congr_left (fun b _ => by simp)).trans (List.map_id l)
  exact congrArg (fun q : Bytes => Result.ok (Value.string ⟨q.toArray⟩) W) hm
theorem cell_after (w w2 : World) (h : w.cell? ⟨5, 7, none⟩ = some (.int .u8 3)) (hs : 6 ≤ w.heap.size) (o : Obj) : (w.alloc o).cell? ⟨5, 7, none⟩ = some (.int .u8 3) := by
  rw [← h]; exact World.cell?_alloc_lt w o _ (by show 5 < w.heap.size; omega)
set_option maxHeartbeats 1000000 in
set_option maxRecDepth 100000 in
theorem formatBits8_calls (u : Nat) (hu : u < 9223372036854775808) (w : World) (hs : 6 ≤ w.heap.size) (h : w.cell? ⟨5, 7, none⟩ = some (.int .u8 3)) :  Calls Tryz.prog 138 #[.slice none 0 0, .int .u64 u, .int .i64 8, .bool false, .bool false] w fun e w' => e = .returned (.tuple #[.slice none 0 0, .string (str (octL u))]) ∧ Below w.heap.size w w' := by
  have H := tz_8 _ (cell_after w w h hs (Obj.cells Tryz.zeroCells171 171))
  go_enter Tryz.func138, Tryz.ntmps138
  go_wp2_with (first | (go_at_call 162; refine (isPow8 _).mono ?_; rintro e w' ⟨rfl, rfl⟩) | (go_at_call 163; refine H.mono ?_; rintro e w' ⟨rfl, rfl⟩))
  clear H
  go_loopw [1, 13] (fun x1 x13 w' => ∃ (v j : Nat) (cs : Array Value) (D : Bytes), x1 = .int .u64 v ∧ x13 = .int .i64 j ∧ Aside0 (octL v ++ D = octL u ∧ D.length + j = 65 ∧ D.length ≤ 20 ∧ v < 8 ^ (21 - D.length) ∧ w'.heap[w.heap.size]? = some (.cells cs 171 (0, 0)) ∧ cs.size = 65 ∧ cs.toList.drop j = Lib.byteCells D ∧ Below w.heap.size w w')) (fun x1 _ _ => (intOf x1).toNat)
  case atStart =>
    exact ⟨u, 65, _, [], rfl, rfl, ⟨by simp, by simp, by simp, by simp; omega, heap_alloc_new w _, size171, by rw [List.drop_eq_nil_of_le (by simp [size171])]; rfl, below_alloc (Below.refl _ _) _⟩⟩
  case round =>
    obtain ⟨v, j, cs, D, rfl, rfl, hR⟩ := hrel
    have hj : 1 ≤ j := by have h1 := hR.out.2.1; have h3 := hR.out.2.2.1; omega
    obtain ⟨j, rfl⟩ : ∃ i, j = i + 1 := ⟨j - 1, by omega⟩
    have hjs : j < cs.size := by have h1 := hR.out.2.1; have := hR.out.2.2.2.2.2.1; omega
    have hc : wr.cell? ⟨w.heap.size, j, none⟩ = some cs[j] := (blk_cell hR.out.2.2.2.2.1 j).trans (Array.getElem?_eq_getElem hjs)
    have hfz : wr.frozen? ⟨w.heap.size, j, none⟩ = false := blk_frozen hR.out.2.2.2.2.1 j
    have hj63 : j < 65 := by have h1 := hR.out.2.1; omega
    by_cases hv : 8 ≤ v
    · have hand : bits BinOp.and IntKind.u64 (v : Int) 7 = ((v % 8 : Nat) : Int) := by
        have hlt : v < 18446744073709551616 := by
          have h3 := hR.out.2.2.2.1
          have : 8 ^ (21 - D.length) ≤ 8 ^ 21 := Nat.pow_le_pow_right (by omega) (by omega)
          have : (8 : Nat) ^ 21 = 9223372036854775808 := by decide
          omega
        rw [show (7 : Int) = ((7 : Nat) : Int) from rfl, u64_and_nat v 7 hlt (by omega), nat_mask3]
      go_wp2
      have hd := dig_at (v % 8) (by omega)
      go_roundw
      case rel =>
        obtain ⟨r1, r2, r3, r4, r5, r6, r7, r8⟩ := hR.out
        have hp := pow_room hv r4
        refine ⟨v / 8, j, _, UInt8.ofNat (48 + v % 8) :: D, by go_num, rfl, ⟨?_, by simp; omega, by simp; omega, ?_, blk_set r5 j _, by simpa using r6, ?_, r8.setCell (by show w.heap.size ≤ w.heap.size; exact Nat.le_refl _) _⟩⟩
        · rw [← r1, octL_ge hv]; simp
        · have : 21 - (D.length + 1) = 21 - D.length - 1 := by omega
          simp only [List.length_cons, this]
          exact hp.2
        · rw [drop_set _ _ _ hjs, r7, hd]
          simp only [Lib.byteCells, List.map_cons]
          rw [byte48 _ (by omega)]
      case measure => simp [intOf]; omega
    · have hsl : ∀ W, (Instr.sliceAt 171 (.pointer (some ⟨w.heap.size, 0, none⟩)) (some (.int .i64 (j : Int))) none none).run Tryz.prog W = .ok (.slice (some ⟨w.heap.size, j, none⟩) (65 - j) (65 - j)) W := by
        intro W
        rw [run_sliceAt_array_l W 171 ⟨w.heap.size, 0, none⟩ (by kernel_rfl) .i64 (j : Int) (by omega) (by rw [alen171]; omega)]
        rw [show (sizeOf (Tryz.prog.elem 171)).run Tryz.prog W = .ok 1 W from by rw [elem171]; exact size5 W]
        simp only [Result.andThen_ok, alen171, slicedAt, Int.toNat_natCast, Nat.mul_one]
        rw [if_neg (by omega), add_plain]
      obtain ⟨r1, r2, r3, r4, r5, r6, r7, r8⟩ := hR.out
      have hst : (convert 25 9 (.slice (some ⟨w.heap.size, j, none⟩) (65 - j) (65 - j))).run Tryz.prog (wr.setCell ⟨w.heap.size, j, none⟩ (.int .u8 ((48 + v : Nat) : Int))) = .ok (.string (str (octL u))) (wr.setCell ⟨w.heap.size, j, none⟩ (.int .u8 ((48 + v : Nat) : Int))) := by
        have hrow := blk_set r5 j (.int .u8 ((48 + v : Nat) : Int))
        have hdr := drop_set cs j (.int .u8 ((48 + v : Nat) : Int)) hjs
        have hsz : (cs.setIfInBounds j (Value.int .u8 ((48 + v : Nat) : Int))).size = 65 := by simpa using r6
        have hl : (octL u).length = 65 - j := by rw [← r1, octL_lt (by omega)]; simp; omega
        rw [r7] at hdr
        have hdr' : (cs.setIfInBounds j (Value.int .u8 ((48 + v : Nat) : Int))).toList.drop j = Lib.byteCells (octL u) := by
          rw [hdr, ← r1, octL_lt (by omega), ← byte48 v (by omega)]; rfl
        exact string_of_row Tryz.underlying25 Tryz.underlying5 Tryz.underlying9 hrow hl (by omega) (by rw [hdr']; exact List.take_of_length_le (by rw [Lib.byteCells_length]; omega)) _
      have hk : Below w.heap.size w (wr.setCell ⟨w.heap.size, j, none⟩ (.int .u8 ((48 + v : Nat) : Int))) := r8.setCell (by show w.heap.size ≤ w.heap.size; exact Nat.le_refl _) _
      clear hR r1 r2 r3 r4 r5 r6 r7
      go_wp2_with fail
      rw [dig_at v (by omega)]
      generalize ((48 + v : Nat) : Int) = X at hst hk ⊢
      rw [hst]
      clear hst
      go_wp2
      go_ret2
      exact ⟨rfl, hk⟩

set_option maxHeartbeats 1000000 in
set_option maxRecDepth 100000 in
theorem formatInt8_inner (u : Nat) (hu : u < 9223372036854775808) (w : World) (hs : 6 ≤ w.heap.size) (h : w.cell? ⟨5, 7, none⟩ = some (.int .u8 3)) :
    Calls Tryz.prog 101 #[.int .i64 u, .int .i64 8] w fun e w' => e = .returned (.string (str (octL u))) ∧ Below w.heap.size w w' := by
  have H := Aside0.mk (formatBits8_calls u hu w hs h)
  clear h
  go_enter Tryz.func101, Tryz.ntmps101
  go_wp2_with (first | (go_at_call 138; refine H.out.mono ?_; rintro e w' ⟨rfl, hb⟩))
  go_ret
  exact ⟨rfl, hb⟩
theorem formatInt8_calls (u : Nat) (hu : u < 9223372036854775808) (w : World) (hs : 6 ≤ w.heap.size) (h : w.cell? ⟨5, 7, none⟩ = some (.int .u8 3)) :
    Calls Tryz.prog 116 #[.int .i64 u, .int .i64 8] w fun e w' => e = .returned (.string (str (octL u))) ∧ Below w.heap.size w w' := by
  have H := Aside0.mk (formatInt8_inner u hu w hs h)
  clear h
  go_enter Tryz.func116, Tryz.ntmps116
  go_wp2_with (first | (go_at_call 101; refine H.out.mono ?_; rintro e w' ⟨rfl, hb⟩))
  go_ret
  exact ⟨rfl, hb⟩
end Go.Proofs.YtkmcbpkciakmeaaGreatDoor.PA

/- fields.PutOctal answers a number in n bytes, where its octal digits fit; new blocks alone. -/
set_option linter.unusedVariables false
set_option linter.unusedSimpArgs false
namespace Go.Proofs.YtkmcbpkciakmeaaGreatDoor.PA
open Go.RowKit Go.Proofs.YtkmcbpkciakmeaaGreatDoorW.PrintWords Go.Proofs.YtkmcbpkciakmeaaGreatDoorW.PrintLast Go.Proofs.YtkmcbpkciakmeaaGreatDoorW.PrintMore

/-- A number in n bytes, as tar has it. -/
def octField (v n : Nat) : Bytes := List.replicate (n - 1 - (octL v).length) 48 ++ octL v ++ [0]

theorem repeat48 (c : Nat) : Lib.repeatL [48] c = List.replicate c 48 := by
  induction c with
  | zero => rfl
  | succ c ih => simp [Lib.repeatL, List.replicate_succ, ih]

set_option maxHeartbeats 1000000 in
set_option maxRecDepth 100000 in
theorem putOctal_core (v n c : Nat) (S : ByteArray) (w : World) (hv : v ≤ 4611686018427387904) (h2 : 2 ≤ n) (hn : n ≤ 64) (hc : c + 1 + S.size = n)
    (h1 : Calls Tryz.prog 116 #[.int .i64 v, .int .i64 8] w fun e w' => e = .returned (.string S) ∧ Below w.heap.size w w') :
    Calls Tryz.prog 79 #[.int .i64 v, .int .i64 n] w fun e w' => ∃ r, e = .returned (.tuple #[r, .bool true]) ∧ RB w' r (List.replicate c 48 ++ S.data.toList ++ [0]) ∧ Below w.heap.size w w' := by
  have H1 := Aside0.mk h1
  clear h1
  have HC := Aside0.mk hc
  have hS : S.size < n := by omega
  have hS2 : S.size ≤ 64 := by omega
  have hc2 : c ≤ 64 := by omega
  clear hc
  obtain ⟨R, hR, hRs⟩ : ∃ R : ByteArray, (∀ W, Calls Tryz.prog 117 #[.string ⟨#[48]⟩, .int .i64 (c : Int)] W fun e w' => e = .returned (.string R) ∧ Below W.heap.size W w') ∧ R.data.toList = List.replicate c 48 :=
    ⟨_, fun W => Tryz.strings_Repeat ⟨#[48]⟩ c W (by omega) (by show 1 * c ≤ _; omega), repeat48 c⟩
  have HR := Aside0.mk hR
  have hRz : R.size ≤ 64 := by rw [size_data, hRs]; simpa using hc2
  clear hR
  have hq1 : R.size + S.size ≤ 9223372036854775807 := by omega
  have hq2 : (R ++ S).size + 1 ≤ 9223372036854775807 := by rw [ByteArray.size_append]; omega
  have hq3 : (R ++ S ++ ⟨#[0]⟩).size ≤ 140737488355328 := by rw [ByteArray.size_append, ByteArray.size_append]; show R.size + S.size + 1 ≤ _; omega
  have hcv : (R ++ S ++ (⟨#[0]⟩ : ByteArray)).data.toList = List.replicate c 48 ++ S.data.toList ++ [0] := by rw [← hRs]; simp
  have HRs := Aside0.mk hRs
  have HCV := Aside0.mk hcv
  clear hRs hcv
  have kb := fun W => print_bytes (P := Tryz.prog) 9 25 5 Tryz.underlying9 Tryz.underlying25 Tryz.underlying5 (R ++ S ++ ⟨#[0]⟩) W
  go_enter Tryz.func79, Tryz.ntmps79
  go_wp2_with (first | (go_at_call 116; refine H1.out.mono ?_; rintro e w' ⟨rfl, hb⟩) | (go_at_call 117; rw [show ((n : Int) - 1 - (S.size : Int)) = (c : Int) from by have := HC.out; omega]; refine (HR.out _).mono ?_; rintro e w2 ⟨rfl, hb2⟩))
  go_ret2
  refine ⟨_, rfl, ?_, ?_⟩
  · rw [← HCV.out]
    have hz : (R ++ S ++ (⟨#[0]⟩ : ByteArray)).size = R.size + S.size + 1 := by rw [ByteArray.size_append, ByteArray.size_append]; rfl
    have hf := conv_reads (w := w2) hq3
    rw [hz] at hf
    exact hf
  · exact bytes_below (below_then hb hb.size hb2) (Nat.le_trans hb.size hb2.size) 5 _

/-- fields.PutOctal, where the digits fit. -/
theorem putOctal_calls (v n : Nat) (w : World) (hT : Tabs w) (hv : v ≤ 4611686018427387904) (h2 : 2 ≤ n) (hn : n ≤ 64) (hl : (octL v).length < n) :
    Calls Tryz.prog 79 #[.int .i64 v, .int .i64 n] w fun e w' => ∃ r, e = .returned (.tuple #[r, .bool true]) ∧ RB w' r (octField v n) ∧ Below w.heap.size w w' :=
  putOctal_core v n (n - 1 - (octL v).length) (str (octL v)) w hv h2 hn (by rw [str_size]; omega) (formatInt8_calls v (by omega) w hT.size hT.deb)
end Go.Proofs.YtkmcbpkciakmeaaGreatDoor.PA

/- fields.Octal answers the number of a header's bytes, where they are octal digits with blanks or nought behind them; new blocks alone. -/
set_option linter.unusedVariables false
set_option linter.unusedSimpArgs false
namespace Go.Proofs.YtkmcbpkciakmeaaGreatDoor.PA
open Go.RowKit Go.Proofs.YtkmcbpkciakmeaaGreatDoorW.PrintWords Go.Proofs.YtkmcbpkciakmeaaGreatDoorW.PrintLast Go.Proofs.YtkmcbpkciakmeaaGreatDoorW.PrintMore

set_option maxHeartbeats 1000000 in
set_option maxRecDepth 100000 in
theorem octal_core (ad : Addr) (n c : Nat) (l : Bytes) (S R : ByteArray) (v m : Nat) (w : World) (hl : l.length = n) (hn : 0 < n) (hn2 : n ≤ 512) (hnc : n ≤ c) (hcell : ∀ j u, (Lib.byteCells l)[j]? = some u → w.cell? (ad.add j) = some u)
    (h128 : l.head? ≠ some 128) (hm : m ≤ S.size) (hSz : S.size ≤ 512) (hv : v ≤ 4611686018427387904)
    (h1 : ∀ W, Calls Tryz.prog 123 #[.string (str l), .string ⟨#[32]⟩] W fun e w' => e = .returned (.string S) ∧ w' = W)
    (h2 : ∀ W, Calls Tryz.prog 69 #[.string S, .int .i64 8] W fun e w' => e = .returned (.tuple #[.int .i64 v, .int .i64 m]) ∧ Below W.heap.size W w')
    (h3 : ∀ W, Calls Tryz.prog 124 #[.string (S.extract m S.size), .string ⟨#[32, 0]⟩] W fun e w' => e = .returned (.string ⟨#[]⟩) ∧ Below W.heap.size W w') :
    Calls Tryz.prog 90 #[.slice (some ad) n c] w fun e w' => e = .returned (.tuple #[.int .i64 v, .int .i64 0]) ∧ Below w.heap.size w w' := by
  have H1 := Aside0.mk h1
  have H2 := Aside0.mk h2
  have H3 := Aside0.mk h3
  clear h1 h2 h3
  obtain ⟨b0, hb0, hne⟩ : ∃ b : UInt8, w.cell? ad = some (.int .u8 (b.toNat : Int)) ∧ ((b.toNat : Int) == 128) = false := by
    cases l with
    | nil => simp at hl; omega
    | cons b r =>
      refine ⟨b, ?_, ?_⟩
      · have := hcell 0 (.int .u8 (b.toNat : Int)) (by simp [Lib.byteCells])
        simpa [Addr.add] using this
      · rw [beq_eq_false_iff_ne]
        intro e
        apply h128
        have : b = 128 := by apply UInt8.toNat_inj.1; simp; omega
        simp [this]
  have hc0 : ((c : Int) == 0) = false := by rw [beq_eq_false_iff_ne]; omega
  have hst := conv_string (w := w) (v := .slice (some ad) n c) (l := l) ⟨some ad, c, by rw [hl], by omega, by omega, fun _ => ⟨ad, rfl, hcell⟩⟩
  clear hcell h128 hl
  go_enter Tryz.func90, Tryz.ntmps90
  go_wp2_with (first | (go_at_call 123; refine (H1.out _).mono ?_; rintro e w1 ⟨rfl, rfl⟩) | (go_at_call 69; refine (H2.out _).mono ?_; rintro e w2 ⟨rfl, hb⟩) | (go_at_call 124; refine (H3.out _).mono ?_; rintro e w3 ⟨rfl, hb2⟩))
  go_ret2
  exact ⟨rfl, below_then hb hb.size hb2⟩

def isDig (base : Int) (c : UInt8) : Prop := 48 ≤ (c.toNat : Int) ∧ (c.toNat : Int) - 48 < base
theorem digs_append (base : Int) : ∀ (a b : Bytes) (v m : Int), (∀ c ∈ a, isDig base c) → digs base (a ++ b) v m = digs base b (digs base a v m).1 (m + a.length)
  | [], b, v, m, _ => by simp [digs]
  | c :: r, b, v, m, h => by
    have hc : 48 ≤ (c.toNat : Int) ∧ (c.toNat : Int) - 48 < base := h c (by simp)
    simp only [List.cons_append, digs]
    rw [if_pos hc, if_pos hc, digs_append base r b _ _ (fun x hx => h x (by simp [hx]))]
    congr 1
    simp only [List.length_cons]
    omega
theorem digs_all (base : Int) (a : Bytes) (v m : Int) (h : ∀ c ∈ a, isDig base c) : (digs base a v m).2 = m + a.length := by
  have := digs_append base a [] v m h
  rw [List.append_nil] at this
  rw [this]; rfl
theorem octL_digs (v : Nat) : ∀ c ∈ octL v, isDig 8 c := by
  induction v using Nat.strongRecOn with
  | _ v ih =>
    intro c hc
    by_cases h : v < 8
    · rw [octL_lt h] at hc
      simp only [List.mem_singleton] at hc
      subst hc
      have : (UInt8.ofNat (48 + v)).toNat = 48 + v := by simp; omega
      unfold isDig; rw [this]; omega
    · rw [octL_ge (by omega)] at hc
      rcases List.mem_append.1 hc with hc | hc
      · exact ih (v / 8) (by omega) c hc
      · simp only [List.mem_singleton] at hc
        subst hc
        have : (UInt8.ofNat (48 + v % 8)).toNat = 48 + v % 8 := by simp; omega
        unfold isDig; rw [this]; omega
theorem digs_octL (v : Nat) (hv : v ≤ 4611686018427387904) : ∀ m, (digs 8 (octL v) 0 m).1 = v := by
  induction v using Nat.strongRecOn with
  | _ v ih =>
    intro m
    by_cases h : v < 8
    · rw [octL_lt h]
      have e : (UInt8.ofNat (48 + v)).toNat = 48 + v := by simp; omega
      simp only [digs, e]
      rw [if_pos (by omega)]
      unfold addB
      rw [if_neg (by omega)]
      omega
    · rw [octL_ge (by omega), digs_append 8 _ _ _ _ (octL_digs _), ih (v / 8) (by omega) (by omega)]
      have e : (UInt8.ofNat (48 + v % 8)).toNat = 48 + v % 8 := by simp; omega
      simp only [digs, e]
      rw [if_pos (by omega)]
      unfold addB
      rw [if_neg (by omega)]
      omega
theorem digs_zeros (z : Nat) : ∀ m, (digs 8 (List.replicate z 48) 0 m).1 = 0 := by
  induction z with
  | zero => intro m; rfl
  | succ z ih =>
    intro m
    simp only [List.replicate_succ, digs]
    rw [if_pos (by decide)]
    exact ih _
theorem field_digs (z v : Nat) (hv : v ≤ 4611686018427387904) : digs 8 (List.replicate z 48 ++ octL v ++ [0]) 0 0 = ((v : Int), ((z + (octL v).length : Nat) : Int)) := by
  have hz : ∀ c ∈ List.replicate z (48 : UInt8), isDig 8 c := fun c hc => by
    rw [List.eq_of_mem_replicate hc]; unfold isDig; decide
  rw [List.append_assoc, digs_append 8 _ _ _ _ hz, digs_append 8 _ _ _ _ (octL_digs v), digs_zeros, digs_octL v hv, List.length_replicate]
  simp only [digs]
  rw [if_neg (by decide)]
  congr 1
  omega
theorem octL_pos (v : Nat) : 1 ≤ (octL v).length := by
  by_cases h : v < 8
  · rw [octL_lt h]; simp
  · rw [octL_ge (by omega)]; simp
theorem octField_length (v n : Nat) (h : (octL v).length < n) : (octField v n).length = n := by
  unfold octField
  simp
  omega
/-- The first byte of a field is a digit. -/
theorem octField_head (v n : Nat) : ∃ c r, octField v n = c :: r ∧ isDig 8 c := by
  unfold octField
  cases hz : n - 1 - (octL v).length with
  | zero =>
    cases ho : octL v with
    | nil => have := octL_pos v; rw [ho] at this; simp at this
    | cons c r => exact ⟨c, _, rfl, octL_digs v c (by rw [ho]; simp)⟩
  | succ k => exact ⟨48, _, by rw [List.replicate_succ]; rfl, by unfold isDig; decide⟩
theorem trim_field (v n : Nat) : Lib.trimLeftB (octField v n) 32 = octField v n := by
  obtain ⟨c, r, h, hd⟩ := octField_head v n
  rw [h, Lib.trimLeftB, List.dropWhile_cons_of_neg]
  unfold isDig at hd
  simp only [beq_iff_eq]
  rintro rfl
  revert hd; decide
theorem drop_field (v n : Nat) (h : (octL v).length < n) : (octField v n).drop (n - 1) = [0] := by
  unfold octField
  rw [List.drop_append_of_le_length (by simp; omega), List.drop_of_length_le (by simp; omega)]
  rfl
theorem octal_calls (v n : Nat) (w : World) (r : Value) (hr : RB w r (octField v n)) (hv : v ≤ 4611686018427387904) (hl : (octL v).length < n) (hn : n ≤ 512) :
    Calls Tryz.prog 90 #[r] w fun e w' => e = .returned (.tuple #[.int .i64 v, .int .i64 0]) ∧ Below w.heap.size w w' := by
  have hlen := octField_length v n hl
  obtain ⟨c, q, hhead, hdig⟩ := octField_head v n
  obtain ⟨A, cap, rfl, h1, h2, h3⟩ := hr
  obtain ⟨ad, rfl, hcell⟩ := h3 (by omega)
  rw [hlen] at h1 ⊢
  have hdg := field_digs (n - 1 - (octL v).length) v hv
  have hm : n - 1 - (octL v).length + (octL v).length = n - 1 := by omega
  rw [hm] at hdg
  refine octal_core ad n cap (octField v n) (str (octField v n)) (str []) v (n - 1) w hlen (by omega) hn h1 hcell ?_ (by rw [str_size, hlen]; omega) (by rw [str_size, hlen]; exact hn) hv ?_ ?_ ?_
  · rw [hhead]
    unfold isDig at hdig
    simp only [List.head?_cons, ne_eq, Option.some.injEq]
    rintro rfl
    revert hdig; decide
  · intro W
    have := Tryz.strings_TrimLeft_one (str (octField v n)) 32 (by decide) W
    rw [data_str, trim_field] at this
    exact this
  · intro W
    have := fields_digits_calls8 (str (octField v n)) W (by rw [str_size, hlen]; omega)
    rw [data_str] at this
    unfold octField at this ⊢
    rw [hdg] at this
    exact this
  · intro W
    have he : (str (octField v n)).extract (n - 1) (str (octField v n)).size = str [0] := by
      apply ByteArray.ext
      apply Array.ext'
      rw [Lib.extract_data]
      rw [str_size, hlen, data_str, data_str, drop_field v n hl, show n - (n - 1) = 1 by omega]
      rfl
    rw [he]
    have := trim_calls (str [0]) ⟨#[32, 0]⟩ W (by rw [str_size]; decide) (by decide) (Go.Proofs.ascii_of_all (by decide))
    exact this
end Go.Proofs.YtkmcbpkciakmeaaGreatDoor.PA
