/- The reader's maps, times, state, and a fine entry as it finds it. -/
import Derived.Test.YtkmcbpkciakmeaaGreatDoorMnames
import Derived.Test.YtkmcbpkciakmeaaGreatDoorMheads
import Derived.Test.YtkmcbpkciakmeaaGreatDoorMprinted
import Derived.Test.YtkmcbpkciakmeaaGreatDoorMcheck
import Derived.Test.YtkmcbpkciakmeaaGreatDoorMparse
import Derived.Test.YtkmcbpkciakmeaaGreatDoorMwrite
import Derived.Test.YtkmcbpkciakmeaaGreatDoorMparsed
import Derived.MapKept
import Derived.Deep.QuietTactic
import Derived.BigQuiet
import Derived.Deep.RegionWith
import Derived.Deep.RegionLaw
import Derived.Deep.CutBlock

/- The reader's maps: texts by texts: what a look-up, a new key and clear do. -/
set_option linter.unusedVariables false
set_option linter.unusedSimpArgs false
namespace Go.Proofs.YtkmcbpkciakmeaaGreatDoor.PA
open Go.RowKit Go.Proofs.YtkmcbpkciakmeaaGreatDoorW.PrintWords Go.Proofs.YtkmcbpkciakmeaaGreatDoorW.PrintLast Go.Proofs.YtkmcbpkciakmeaaGreatDoorW.PrintMore
theorem under51 : Tryz.prog.underlying 51 = some (.map 9 9) := by kernel_rfl
theorem zero9 (W : World) : (zeroValue 9).run Tryz.prog W = .ok (.string ⟨#[]⟩) W := by
  obtain ⟨i, hi, hz, _⟩ := info_parts info9
  simp [zeroValue, typeInfo, hi, hz]
def MapIs (W : World) (b : Nat) (l : List KV) : Prop := ∃ es clock, W.heap[b]? = some (.map es clock) ∧ es.toList.map (fun e => (e.key, e.val)) = l.map (fun p => (Value.string p.1, Value.string p.2))
def getS (l : List KV) (k : ByteArray) : Option ByteArray := (l.find? (fun p => decide (p.1 = k))).map (·.2)
theorem beq_data (a b : ByteArray) : (a == b) = (a.data == b.data) := by cases a; cases b; rfl
theorem checkKey_S (e : Bool) (k : ByteArray) (W : World) : (Instr.checkKey e 10000 9 (.string k)).run Tryz.prog W = .ok () W := by
  rw [show (10000 : Nat) = 9999 + 1 from rfl, Instr.checkKey]
  simp [run_underlying Tryz.underlying9]
theorem findNow_S (k : ByteArray) : ∀ (es : List MapEntry) (l : List KV) (i : Nat), es.map (fun e => (e.key, e.val)) = l.map (fun p => (Value.string p.1, Value.string p.2)) →
    ∃ r, Instr.findNow .string (.string k) es i = some r ∧ r.map (·.2) = (getS l k).map Value.string
  | [], l, i, h => by
    have : l = [] := by simpa using h.symm
    subst this
    exact ⟨none, rfl, rfl⟩
  | e :: es, l, i, h => by
    rcases l with _ | ⟨p, l⟩
    · simp at h
    · simp only [List.map_cons, List.cons.injEq, Prod.mk.injEq] at h
      obtain ⟨⟨h1, h2⟩, h3⟩ := h
      unfold Instr.findNow
      rw [h1]
      simp only [Instr.sameNow]
      by_cases hk : p.1 = k
      · have hb : (k == p.1) = true := by rw [hk]; exact beq_data k k |>.trans (by simp)
        rw [hb]
        refine ⟨some (i, e.val), rfl, ?_⟩
        rw [h2]
        simp [getS, hk]
      · have hb : (k == p.1) = false := by rw [beq_data, beq_eq_false_iff_ne]; exact fun e => hk (ByteArray.ext e.symm)
        rw [hb]
        obtain ⟨r, hr, hv⟩ := findNow_S k es l (i + 1) h3
        refine ⟨r, hr, ?_⟩
        rw [hv]
        simp [getS, hk]
theorem run_lookup_S {W : World} {b : Nat} {l : List KV} (h : MapIs W b l) (k : ByteArray) :
    (Instr.lookup 51 (.map (some b)) (.string k) true).run Tryz.prog W = .ok (.tuple #[.string ((getS l k).getD ⟨#[]⟩), .bool (getS l k).isSome]) W := by
  obtain ⟨es, clock, hb, he⟩ := h
  obtain ⟨r, hr, hv⟩ := findNow_S k es.toList l 0 he
  have hu9 := Tryz.underlying9
  have hz := zero9 W
  have hc := checkKey_S es.isEmpty k W
  have hgo : (getObj b).run Tryz.prog W = .ok (.map es clock) W := by simp [getObj, Sem.run, hb]
  simp only [Instr.lookup, Sem.run_bind, run_underlying under51, Result.andThen_ok, hgo, Sem.run_pure, hc, Instr.findKey, run_underlying hu9, hr]
  rcases r with _ | ⟨i, v⟩
  · have : getS l k = none := by
      cases hg : getS l k with
      | none => rfl
      | some v' => rw [hg] at hv; simp at hv
    rw [this]; simp [hz]
  · cases hg : getS l k with
    | none => rw [hg] at hv; simp at hv
    | some v' => rw [hg] at hv; simp at hv; simp [hv]
theorem run_update_S {W : World} {b : Nat} {l : List KV} (h : MapIs W b l) (k v : ByteArray) (hk : getS l k = none) :
    ∃ W', (Instr.mapUpdate 51 (.map (some b)) (.string k) (.string v)).run Tryz.prog W = .ok () W' ∧ MapIs W' b (l ++ [(k, v)]) ∧ W'.heap.size = W.heap.size ∧ (∀ j, j ≠ b → W'.heap[j]? = W.heap[j]?) ∧ ∀ B w0, Below B w0 W → B ≤ b → Below B w0 W' := by
  obtain ⟨es, clock, hb, he⟩ := h
  obtain ⟨r, hr, hv⟩ := findNow_S k es.toList l 0 he
  have hu9 := Tryz.underlying9
  rw [hk] at hv
  obtain rfl : r = none := by cases r <;> simp_all
  have hrun : (Instr.mapUpdate 51 (.map (some b)) (.string k) (.string v)).run Tryz.prog W = (setObj b (.map (es.push { key := .string k, val := .string v, born := clock }) (clock + 1))).run Tryz.prog W := by
    have hc := checkKey_S false k W
    have hgo : (getObj b).run Tryz.prog W = .ok (.map es clock) W := by simp [getObj, Sem.run, hb]
    simp only [Instr.mapUpdate, Sem.run_bind, run_underlying under51, Result.andThen_ok, hgo, Sem.run_pure, hc, Instr.findKey, run_underlying hu9, hr]
  have hset : (setObj b (.map (es.push { key := .string k, val := .string v, born := clock }) (clock + 1))).run Tryz.prog W = .ok () { W with heap := W.heap.setIfInBounds b (.map (es.push { key := .string k, val := .string v, born := clock }) (clock + 1)) } := by
    simp [setObj, Sem.run, hb]
  have hlt := blk_lt hb
  refine ⟨_, hrun.trans hset, ⟨es.push { key := .string k, val := .string v, born := clock }, clock + 1, by simp [hlt], by simp [he]⟩, by simp, fun j hj => ?_, fun B w0 hbl hB => ?_⟩
  · simp [Array.getElem?_setIfInBounds, Ne.symm hj]
  · exact hbl.trans ⟨rfl, rfl, rfl, by simp, fun j hj => by simp [Array.getElem?_setIfInBounds, show b ≠ j by omega]⟩
theorem run_clear_S {W : World} {b : Nat} {l : List KV} (ty : TypeId) (h : MapIs W b l) :
    ∃ W', (Builtin.clear_ #[51] ty #[.map (some b)]).run Tryz.prog W = .ok (.tuple #[]) W' ∧ MapIs W' b [] ∧ W'.heap.size = W.heap.size ∧ (∀ j, j ≠ b → W'.heap[j]? = W.heap[j]?) ∧ ∀ B w0, Below B w0 W → B ≤ b → Below B w0 W' := by
  obtain ⟨es, clock, hb, he⟩ := h
  have hgo : (getObj b).run Tryz.prog W = .ok (.map es clock) W := by simp [getObj, Sem.run, hb]
  have hset : (setObj b (.map #[] clock)).run Tryz.prog W = .ok () { W with heap := W.heap.setIfInBounds b (.map #[] clock) } := by
    simp [setObj, Sem.run, hb]
  have hlt := blk_lt hb
  refine ⟨{ W with heap := W.heap.setIfInBounds b (.map #[] clock) }, ?_, ⟨#[], clock, by simp [hlt], rfl⟩, by simp, fun j hj => ?_, fun B w0 hbl hB => ?_⟩
  · simp [Builtin.clear_, run_underlying under51, hgo, hset]
  · simp [Array.getElem?_setIfInBounds, Ne.symm hj]
  · exact hbl.trans ⟨rfl, rfl, rfl, by simp, fun j hj => by simp [Array.getElem?_setIfInBounds, show b ≠ j by omega]⟩
theorem mapIs_new (W : World) : MapIs (W.alloc (.map #[] 0)) W.heap.size [] := ⟨#[], 0, heap_alloc_new W _, rfl⟩
theorem MapIs.keep {W W' : World} {b : Nat} {l : List KV} (h : MapIs W b l) (hk : W'.heap[b]? = W.heap[b]?) : MapIs W' b l := by
  obtain ⟨es, clock, hb, he⟩ := h
  exact ⟨es, clock, hk.trans hb, he⟩
theorem MapIs.lt {W : World} {b : Nat} {l : List KV} (h : MapIs W b l) : b < W.heap.size := by
  obtain ⟨es, clock, hb, he⟩ := h
  exact blk_lt hb
end Go.Proofs.YtkmcbpkciakmeaaGreatDoor.PA

/- fields.Seconds reads what fields.PutSeconds wrote; new blocks alone. -/
set_option linter.unusedVariables false
set_option linter.unusedSimpArgs false
namespace Go.Proofs.YtkmcbpkciakmeaaGreatDoor.PA
open Go.RowKit Go.Proofs.YtkmcbpkciakmeaaGreatDoorW.PrintWords Go.Proofs.YtkmcbpkciakmeaaGreatDoorW.PrintLast Go.Proofs.YtkmcbpkciakmeaaGreatDoorW.PrintMore

theorem run_slice_string_h9 (s : ByteArray) (h : 9 ≤ s.size) (w : World) : (Instr.slice 9 (.string s) none (some (.int .i64 9)) none).run Tryz.prog w = .ok (.string (s.extract 0 9)) w :=
  run_slice_string_h w 9 s Tryz.underlying9 .i64 9 (by omega) (by omega)

set_option maxHeartbeats 1000000 in
set_option maxRecDepth 100000 in
theorem seconds_nf (s body Wh Pt P9 : ByteArray) (v many more nano k : Nat) (x : Int) (w : World) (hT : Tabs w) (hv : v ≤ 9000000000) (hn : nano < 1000000000) (hk : k ≤ 64) (hx0 : -1 ≤ x) (hx : x ≤ 4611686018427387904)
    (hmany : 1 ≤ many) (hm2 : many = Wh.size) (hm3 : many ≤ 64) (hq : 1 ≤ more) (hmore : more = Pt.size) (hm4 : more ≤ 64) (hP9 : (Pt ++ ⟨#[48, 48, 48, 48, 48, 48, 48, 48, 48]⟩).extract 0 9 = P9)
    (h1 : ∀ W, Calls Tryz.prog 68 #[.string s, .string ⟨#[45]⟩] W fun e w' => e = .returned (.tuple #[.string body, .bool true]) ∧ w' = W)
    (h2 : ∀ W, Tabs W → Calls Tryz.prog 36 #[.string body, .string ⟨#[46]⟩] W fun e w' => e = .returned (.tuple #[.string Wh, .string Pt, .bool true]) ∧ Below W.heap.size W w')
    (h3 : ∀ W, Calls Tryz.prog 69 #[.string Wh, .int .i64 10] W fun e w' => e = .returned (.tuple #[.int .i64 v, .int .i64 many]) ∧ Below W.heap.size W w')
    (h4 : ∀ W, Calls Tryz.prog 69 #[.string Pt, .int .i64 10] W fun e w' => e = .returned (.tuple #[.int .i64 x, .int .i64 more]) ∧ Below W.heap.size W w')
    (h5 : ∀ W, Calls Tryz.prog 69 #[.string P9, .int .i64 10] W fun e w' => e = .returned (.tuple #[.int .i64 nano, .int .i64 k]) ∧ Below W.heap.size W w') :
    Calls Tryz.prog 131 #[.string s] w fun e w' => e = .returned (.tuple #[.int .i64 (-((v : Int) * 1000000000 + nano)), .int .i64 0]) ∧ Below w.heap.size w w' := by
  have H1 := Aside0.mk h1
  have H2 := Aside0.mk h2
  have H3 := Aside0.mk h3
  have H4 := Aside0.mk h4
  have H5 := Aside0.mk h5
  clear h1 h2 h3 h4 h5
  have t1 : ((many : Int) == 0) = false := by rw [beq_eq_false_iff_ne]; omega
  have t2 : decide ((many : Int) < (Wh.size : Int)) = false := decide_eq_false (by omega)
  have t2' : decide (many < Wh.size) = false := decide_eq_false (by omega)
  have t3 : ((more : Int) == 0) = false := by rw [beq_eq_false_iff_ne]; omega
  have t4 : decide ((more : Int) < (Pt.size : Int)) = false := decide_eq_false (by omega)
  have t4' : decide (more < Pt.size) = false := decide_eq_false (by omega)
  have hq1 : Pt.size + 9 ≤ 9223372036854775807 := by omega
  have hsz : 9 ≤ (Pt ++ (⟨#[48, 48, 48, 48, 48, 48, 48, 48, 48]⟩ : ByteArray)).size := by rw [ByteArray.size_append]; show 9 ≤ Pt.size + 9; omega
  have hsl := fun wx => run_slice_string_h9 (Pt ++ (⟨#[48, 48, 48, 48, 48, 48, 48, 48, 48]⟩ : ByteArray)) hsz wx
  rw [hP9] at hsl
  clear hm2 hmore hP9 hsz
  go_enter Tryz.func131, Tryz.ntmps131
  go_wp2_with (first
    | (go_at_call 68; refine (H1.out _).mono ?_; rintro e w1 ⟨rfl, rfl⟩)
    | (go_at_call 36; refine (H2.out _ hT).mono ?_; rintro e w2 ⟨rfl, hb⟩)
    | (go_at_call_of 69 (Value.string Wh); refine (H3.out _).mono ?_; rintro e w3 ⟨rfl, hb3⟩)
    | (go_at_call_of 69 (Value.string Pt); refine (H4.out _).mono ?_; rintro e w4 ⟨rfl, hb4⟩)
    | (go_at_call_of 69 (Value.string P9); refine (H5.out _).mono ?_; rintro e w5 ⟨rfl, hb5⟩))
  go_ret2
  exact ⟨rfl, below_then (below_then (below_then hb hb.size hb3) (Nat.le_trans hb.size hb3.size) hb4) (Nat.le_trans hb.size (Nat.le_trans hb3.size hb4.size)) hb5⟩

set_option maxHeartbeats 1000000 in
set_option maxRecDepth 100000 in
theorem seconds_nw (s body Wh Pt P9 : ByteArray) (v many more nano k : Nat) (x : Int) (w : World) (hT : Tabs w) (hv : v ≤ 9000000000) (hn : nano < 1000000000) (hk : k ≤ 64) (hx0 : -1 ≤ x) (hx : x ≤ 4611686018427387904)
    (hmany : 1 ≤ many) (hm2 : many = Wh.size) (hm3 : many ≤ 64)  (hmore : more = Pt.size) (hm4 : more ≤ 64) (hP9 : (Pt ++ ⟨#[48, 48, 48, 48, 48, 48, 48, 48, 48]⟩).extract 0 9 = P9)
    (h1 : ∀ W, Calls Tryz.prog 68 #[.string s, .string ⟨#[45]⟩] W fun e w' => e = .returned (.tuple #[.string body, .bool true]) ∧ w' = W)
    (h2 : ∀ W, Tabs W → Calls Tryz.prog 36 #[.string body, .string ⟨#[46]⟩] W fun e w' => e = .returned (.tuple #[.string Wh, .string Pt, .bool false]) ∧ Below W.heap.size W w')
    (h3 : ∀ W, Calls Tryz.prog 69 #[.string Wh, .int .i64 10] W fun e w' => e = .returned (.tuple #[.int .i64 v, .int .i64 many]) ∧ Below W.heap.size W w')
    (h4 : ∀ W, Calls Tryz.prog 69 #[.string Pt, .int .i64 10] W fun e w' => e = .returned (.tuple #[.int .i64 x, .int .i64 more]) ∧ Below W.heap.size W w')
    (h5 : ∀ W, Calls Tryz.prog 69 #[.string P9, .int .i64 10] W fun e w' => e = .returned (.tuple #[.int .i64 nano, .int .i64 k]) ∧ Below W.heap.size W w') :
    Calls Tryz.prog 131 #[.string s] w fun e w' => e = .returned (.tuple #[.int .i64 (-((v : Int) * 1000000000 + nano)), .int .i64 0]) ∧ Below w.heap.size w w' := by
  have H1 := Aside0.mk h1
  have H2 := Aside0.mk h2
  have H3 := Aside0.mk h3
  have H4 := Aside0.mk h4
  have H5 := Aside0.mk h5
  clear h1 h2 h3 h4 h5
  have t1 : ((many : Int) == 0) = false := by rw [beq_eq_false_iff_ne]; omega
  have t2 : decide ((many : Int) < (Wh.size : Int)) = false := decide_eq_false (by omega)
  have t2' : decide (many < Wh.size) = false := decide_eq_false (by omega)
  have t3 : ((more : Int) == 0) = decide (more = 0) := by by_cases h : more = 0 <;> simp [h] <;> omega
  have t4 : decide ((more : Int) < (Pt.size : Int)) = false := decide_eq_false (by omega)
  have t4' : decide (more < Pt.size) = false := decide_eq_false (by omega)
  have hq1 : Pt.size + 9 ≤ 9223372036854775807 := by omega
  have hsz : 9 ≤ (Pt ++ (⟨#[48, 48, 48, 48, 48, 48, 48, 48, 48]⟩ : ByteArray)).size := by rw [ByteArray.size_append]; show 9 ≤ Pt.size + 9; omega
  have hsl := fun wx => run_slice_string_h9 (Pt ++ (⟨#[48, 48, 48, 48, 48, 48, 48, 48, 48]⟩ : ByteArray)) hsz wx
  rw [hP9] at hsl
  clear hm2 hmore hP9 hsz
  go_enter Tryz.func131, Tryz.ntmps131
  go_wp2_with (first
    | (go_at_call 68; refine (H1.out _).mono ?_; rintro e w1 ⟨rfl, rfl⟩)
    | (go_at_call 36; refine (H2.out _ hT).mono ?_; rintro e w2 ⟨rfl, hb⟩)
    | (go_at_call_of 69 (Value.string Wh); refine (H3.out _).mono ?_; rintro e w3 ⟨rfl, hb3⟩)
    | (go_at_call_of 69 (Value.string Pt); refine (H4.out _).mono ?_; rintro e w4 ⟨rfl, hb4⟩)
    | (go_at_call_of 69 (Value.string P9); refine (H5.out _).mono ?_; rintro e w5 ⟨rfl, hb5⟩))
  go_ret2
  exact ⟨rfl, below_then (below_then (below_then hb hb.size hb3) (Nat.le_trans hb.size hb3.size) hb4) (Nat.le_trans hb.size (Nat.le_trans hb3.size hb4.size)) hb5⟩

set_option maxHeartbeats 1000000 in
set_option maxRecDepth 100000 in
theorem seconds_pf (s body Wh Pt P9 : ByteArray) (v many more nano k : Nat) (x : Int) (w : World) (hT : Tabs w) (hv : v ≤ 9000000000) (hn : nano < 1000000000) (hk : k ≤ 64) (hx0 : -1 ≤ x) (hx : x ≤ 4611686018427387904)
    (hmany : 1 ≤ many) (hm2 : many = Wh.size) (hm3 : many ≤ 64) (hq : 1 ≤ more) (hmore : more = Pt.size) (hm4 : more ≤ 64) (hP9 : (Pt ++ ⟨#[48, 48, 48, 48, 48, 48, 48, 48, 48]⟩).extract 0 9 = P9)
    (h1 : ∀ W, Calls Tryz.prog 68 #[.string s, .string ⟨#[45]⟩] W fun e w' => e = .returned (.tuple #[.string body, .bool false]) ∧ w' = W)
    (h2 : ∀ W, Tabs W → Calls Tryz.prog 36 #[.string body, .string ⟨#[46]⟩] W fun e w' => e = .returned (.tuple #[.string Wh, .string Pt, .bool true]) ∧ Below W.heap.size W w')
    (h3 : ∀ W, Calls Tryz.prog 69 #[.string Wh, .int .i64 10] W fun e w' => e = .returned (.tuple #[.int .i64 v, .int .i64 many]) ∧ Below W.heap.size W w')
    (h4 : ∀ W, Calls Tryz.prog 69 #[.string Pt, .int .i64 10] W fun e w' => e = .returned (.tuple #[.int .i64 x, .int .i64 more]) ∧ Below W.heap.size W w')
    (h5 : ∀ W, Calls Tryz.prog 69 #[.string P9, .int .i64 10] W fun e w' => e = .returned (.tuple #[.int .i64 nano, .int .i64 k]) ∧ Below W.heap.size W w') :
    Calls Tryz.prog 131 #[.string s] w fun e w' => e = .returned (.tuple #[.int .i64 ((v : Int) * 1000000000 + nano), .int .i64 0]) ∧ Below w.heap.size w w' := by
  have H1 := Aside0.mk h1
  have H2 := Aside0.mk h2
  have H3 := Aside0.mk h3
  have H4 := Aside0.mk h4
  have H5 := Aside0.mk h5
  clear h1 h2 h3 h4 h5
  have t1 : ((many : Int) == 0) = false := by rw [beq_eq_false_iff_ne]; omega
  have t2 : decide ((many : Int) < (Wh.size : Int)) = false := decide_eq_false (by omega)
  have t2' : decide (many < Wh.size) = false := decide_eq_false (by omega)
  have t3 : ((more : Int) == 0) = false := by rw [beq_eq_false_iff_ne]; omega
  have t4 : decide ((more : Int) < (Pt.size : Int)) = false := decide_eq_false (by omega)
  have t4' : decide (more < Pt.size) = false := decide_eq_false (by omega)
  have hq1 : Pt.size + 9 ≤ 9223372036854775807 := by omega
  have hsz : 9 ≤ (Pt ++ (⟨#[48, 48, 48, 48, 48, 48, 48, 48, 48]⟩ : ByteArray)).size := by rw [ByteArray.size_append]; show 9 ≤ Pt.size + 9; omega
  have hsl := fun wx => run_slice_string_h9 (Pt ++ (⟨#[48, 48, 48, 48, 48, 48, 48, 48, 48]⟩ : ByteArray)) hsz wx
  rw [hP9] at hsl
  clear hm2 hmore hP9 hsz
  go_enter Tryz.func131, Tryz.ntmps131
  go_wp2_with (first
    | (go_at_call 68; refine (H1.out _).mono ?_; rintro e w1 ⟨rfl, rfl⟩)
    | (go_at_call 36; refine (H2.out _ hT).mono ?_; rintro e w2 ⟨rfl, hb⟩)
    | (go_at_call_of 69 (Value.string Wh); refine (H3.out _).mono ?_; rintro e w3 ⟨rfl, hb3⟩)
    | (go_at_call_of 69 (Value.string Pt); refine (H4.out _).mono ?_; rintro e w4 ⟨rfl, hb4⟩)
    | (go_at_call_of 69 (Value.string P9); refine (H5.out _).mono ?_; rintro e w5 ⟨rfl, hb5⟩))
  go_ret2
  exact ⟨rfl, below_then (below_then (below_then hb hb.size hb3) (Nat.le_trans hb.size hb3.size) hb4) (Nat.le_trans hb.size (Nat.le_trans hb3.size hb4.size)) hb5⟩

set_option maxHeartbeats 1000000 in
set_option maxRecDepth 100000 in
theorem seconds_pw (s body Wh Pt P9 : ByteArray) (v many more nano k : Nat) (x : Int) (w : World) (hT : Tabs w) (hv : v ≤ 9000000000) (hn : nano < 1000000000) (hk : k ≤ 64) (hx0 : -1 ≤ x) (hx : x ≤ 4611686018427387904)
    (hmany : 1 ≤ many) (hm2 : many = Wh.size) (hm3 : many ≤ 64)  (hmore : more = Pt.size) (hm4 : more ≤ 64) (hP9 : (Pt ++ ⟨#[48, 48, 48, 48, 48, 48, 48, 48, 48]⟩).extract 0 9 = P9)
    (h1 : ∀ W, Calls Tryz.prog 68 #[.string s, .string ⟨#[45]⟩] W fun e w' => e = .returned (.tuple #[.string body, .bool false]) ∧ w' = W)
    (h2 : ∀ W, Tabs W → Calls Tryz.prog 36 #[.string body, .string ⟨#[46]⟩] W fun e w' => e = .returned (.tuple #[.string Wh, .string Pt, .bool false]) ∧ Below W.heap.size W w')
    (h3 : ∀ W, Calls Tryz.prog 69 #[.string Wh, .int .i64 10] W fun e w' => e = .returned (.tuple #[.int .i64 v, .int .i64 many]) ∧ Below W.heap.size W w')
    (h4 : ∀ W, Calls Tryz.prog 69 #[.string Pt, .int .i64 10] W fun e w' => e = .returned (.tuple #[.int .i64 x, .int .i64 more]) ∧ Below W.heap.size W w')
    (h5 : ∀ W, Calls Tryz.prog 69 #[.string P9, .int .i64 10] W fun e w' => e = .returned (.tuple #[.int .i64 nano, .int .i64 k]) ∧ Below W.heap.size W w') :
    Calls Tryz.prog 131 #[.string s] w fun e w' => e = .returned (.tuple #[.int .i64 ((v : Int) * 1000000000 + nano), .int .i64 0]) ∧ Below w.heap.size w w' := by
  have H1 := Aside0.mk h1
  have H2 := Aside0.mk h2
  have H3 := Aside0.mk h3
  have H4 := Aside0.mk h4
  have H5 := Aside0.mk h5
  clear h1 h2 h3 h4 h5
  have t1 : ((many : Int) == 0) = false := by rw [beq_eq_false_iff_ne]; omega
  have t2 : decide ((many : Int) < (Wh.size : Int)) = false := decide_eq_false (by omega)
  have t2' : decide (many < Wh.size) = false := decide_eq_false (by omega)
  have t3 : ((more : Int) == 0) = decide (more = 0) := by by_cases h : more = 0 <;> simp [h] <;> omega
  have t4 : decide ((more : Int) < (Pt.size : Int)) = false := decide_eq_false (by omega)
  have t4' : decide (more < Pt.size) = false := decide_eq_false (by omega)
  have hq1 : Pt.size + 9 ≤ 9223372036854775807 := by omega
  have hsz : 9 ≤ (Pt ++ (⟨#[48, 48, 48, 48, 48, 48, 48, 48, 48]⟩ : ByteArray)).size := by rw [ByteArray.size_append]; show 9 ≤ Pt.size + 9; omega
  have hsl := fun wx => run_slice_string_h9 (Pt ++ (⟨#[48, 48, 48, 48, 48, 48, 48, 48, 48]⟩ : ByteArray)) hsz wx
  rw [hP9] at hsl
  clear hm2 hmore hP9 hsz
  go_enter Tryz.func131, Tryz.ntmps131
  go_wp2_with (first
    | (go_at_call 68; refine (H1.out _).mono ?_; rintro e w1 ⟨rfl, rfl⟩)
    | (go_at_call 36; refine (H2.out _ hT).mono ?_; rintro e w2 ⟨rfl, hb⟩)
    | (go_at_call_of 69 (Value.string Wh); refine (H3.out _).mono ?_; rintro e w3 ⟨rfl, hb3⟩)
    | (go_at_call_of 69 (Value.string Pt); refine (H4.out _).mono ?_; rintro e w4 ⟨rfl, hb4⟩)
    | (go_at_call_of 69 (Value.string P9); refine (H5.out _).mono ?_; rintro e w5 ⟨rfl, hb5⟩))
  go_ret2
  exact ⟨rfl, below_then (below_then (below_then hb hb.size hb3) (Nat.le_trans hb.size hb3.size) hb4) (Nat.le_trans hb.size (Nat.le_trans hb3.size hb4.size)) hb5⟩

/-- Seconds reads what PutSeconds wrote. -/
theorem seconds_calls (t : Int) (w : World) (hT : Tabs w) (h0 : -9000000000000000000 ≤ t) (h1 : t ≤ 9000000000000000000) :
    Calls Tryz.prog 131 #[.string (str (putSecS t))] w fun e w' => e = .returned (.tuple #[.int .i64 t, .int .i64 0]) ∧ Below w.heap.size w w' := by
  obtain ⟨V, hV⟩ : ∃ V : Nat, t.natAbs = V := ⟨_, rfl⟩
  have hq : V / 1000000000 ≤ 9000000000 := by omega
  obtain ⟨L, hL1, hL2, hL3⟩ := dec_pad 9 (V % 1000000000) (by omega)
  have hp9 : (10 : Nat) ^ 9 = 1000000000 := by decide
  rw [hp9] at hL1
  have hLdig : ∀ c ∈ L, isDig 10 c := fun c hc => dec_digs (1000000000 + V % 1000000000) c (by rw [hL1]; simp [hc])
  have hL4 := hL3 0 (by omega) (by omega) 0
  have hWl := decDigits_le20 (V / 1000000000) (by omega)
  have hWp : 1 ≤ (Lib.decDigits (V / 1000000000)).length := by rw [Lib.decDigits_length, Lib.nDigits]; split <;> omega
  obtain ⟨k, hk⟩ := trimRightB_split L 48
  have hFd : ∀ c ∈ Lib.trimRightB L 48, isDig 10 c := fun c hc => hLdig c (by rw [hk]; simp [hc])
  have hFl : (Lib.trimRightB L 48).length + k = 9 := by have := congrArg List.length hk; rw [hL2] at this; simp at this; omega
  have hF1 : ¬ V % 1000000000 = 0 → 1 ≤ (Lib.trimRightB L 48).length := by
    intro hz
    rcases Nat.eq_zero_or_pos (Lib.trimRightB L 48).length with h | h
    · exfalso
      have e : Lib.trimRightB L 48 = [] := List.eq_nil_of_length_eq_zero h
      rw [e, List.nil_append] at hk
      rw [hk] at hL4
      have hz10 : ∀ (n : Nat) m, (digs 10 (List.replicate n 48) 0 m).1 = 0 := by
        intro n
        induction n with
        | zero => intro m; rfl
        | succ n ih => intro m; rw [List.replicate_succ]; simp only [digs]; rw [if_pos (by decide)]; exact ih _
      rw [hz10] at hL4
      omega
    · exact h
  have hsplit : ∀ F : Bytes, L = F ++ List.replicate (9 - F.length) 48 → F.length ≤ 9 → (str F ++ (⟨#[48, 48, 48, 48, 48, 48, 48, 48, 48]⟩ : ByteArray)).extract 0 9 = str L := by
    intro F hF hle
    apply ByteArray.ext
    apply Array.ext'
    rw [Lib.extract_data, data_str]
    have e : (str F ++ (⟨#[48, 48, 48, 48, 48, 48, 48, 48, 48]⟩ : ByteArray)).data.toList = F ++ List.replicate 9 48 := by simp [str]
    rw [e, List.drop_zero, Nat.sub_zero, List.take_append, List.take_of_length_le hle, List.take_replicate, Nat.min_eq_left (by omega)]
    exact hF.symm
  have hnano : ∀ W, Calls Tryz.prog 69 #[.string (str L), .int .i64 10] W fun e w' => e = .returned (.tuple #[.int .i64 ((V % 1000000000 : Nat) : Int), .int .i64 ((9 : Nat) : Int)]) ∧ Below W.heap.size W w' := by
    intro W
    have := fields_digits_calls10 (str L) W (by rw [str_size]; omega)
    rw [data_str, digs_all 10 L 0 0 hLdig, hL2, hL4] at this
    simpa using this
  have hwhole : ∀ W, Calls Tryz.prog 69 #[.string (str (Lib.decDigits (V / 1000000000))), .int .i64 10] W fun e w' => e = .returned (.tuple #[.int .i64 ((V / 1000000000 : Nat) : Int), .int .i64 (((Lib.decDigits (V / 1000000000)).length : Nat) : Int)]) ∧ Below W.heap.size W w' := by
    intro W
    have := fields_digits_calls10 (str (Lib.decDigits (V / 1000000000))) W (by rw [str_size]; omega)
    rw [data_str, digs_dec_all _ (by omega)] at this
    exact this
  have hpart : ∀ F : Bytes, (∀ c ∈ F, isDig 10 c) → F.length ≤ 9 → ∃ x : Int, -1 ≤ x ∧ x ≤ 4611686018427387904 ∧ ∀ W, Calls Tryz.prog 69 #[.string (str F), .int .i64 10] W fun e w' => e = .returned (.tuple #[.int .i64 x, .int .i64 ((F.length : Nat) : Int)]) ∧ Below W.heap.size W w' := by
    intro F hF hFle
    have hr := digs_range 10 (.inr rfl) F 0 0 (by omega) (by omega) (by omega)
    refine ⟨(digs 10 F 0 0).1, hr.1, hr.2.1, fun W => ?_⟩
    have := fields_digits_calls10 (str F) W (by rw [str_size]; omega)
    rw [data_str, digs_all 10 F 0 0 hF, Int.zero_add] at this
    exact this
  have hcutw : ∀ W, Tabs W → Calls Tryz.prog 36 #[.string (str (Lib.decDigits (V / 1000000000))), .string ⟨#[46]⟩] W fun e w' => e = .returned (.tuple #[.string (str (Lib.decDigits (V / 1000000000))), .string (str []), .bool false]) ∧ Below W.heap.size W w' := by
    intro W hW
    have := cut_calls (str (Lib.decDigits (V / 1000000000))) ⟨#[46]⟩ W hW (by rw [str_size]; omega)
    rw [data_str, show (⟨#[46]⟩ : ByteArray).data.toList = [46] from rfl, lib_cut, cut1_none (dec_ne _ 46 (by unfold isDig; decide))] at this
    exact this
  have hcutf : ∀ W, Tabs W → Calls Tryz.prog 36 #[.string (str (Lib.decDigits (V / 1000000000) ++ [46] ++ Lib.trimRightB L 48)), .string ⟨#[46]⟩] W fun e w' => e = .returned (.tuple #[.string (str (Lib.decDigits (V / 1000000000))), .string (str (Lib.trimRightB L 48)), .bool true]) ∧ Below W.heap.size W w' := by
    intro W hW
    have := cut_calls (str (Lib.decDigits (V / 1000000000) ++ [46] ++ Lib.trimRightB L 48)) ⟨#[46]⟩ W hW (by rw [str_size]; simp; omega)
    rw [data_str, show (⟨#[46]⟩ : ByteArray).data.toList = [46] from rfl, lib_cut, List.append_assoc, List.singleton_append, cut1_at (dec_ne _ 46 (by unfold isDig; decide))] at this
    rw [List.append_assoc, List.singleton_append]
    exact this
  have hpn : ∀ l W, Calls Tryz.prog 68 #[.string (str (45 :: l)), .string ⟨#[45]⟩] W fun e w' => e = .returned (.tuple #[.string (str l), .bool true]) ∧ w' = W := by
    intro l W
    exact Tryz.strings_CutPrefix (str (45 :: l)) ⟨#[45]⟩ W
  have hpp : ∀ r W, Calls Tryz.prog 68 #[.string (str (Lib.decDigits (V / 1000000000) ++ r)), .string ⟨#[45]⟩] W fun e w' => e = .returned (.tuple #[.string (str (Lib.decDigits (V / 1000000000) ++ r)), .bool false]) ∧ w' = W := by
    intro r W
    have := Tryz.strings_CutPrefix (str (Lib.decDigits (V / 1000000000) ++ r)) ⟨#[45]⟩ W
    cases hd : Lib.decDigits (V / 1000000000) with
    | nil => rw [hd] at hWp; simp at hWp
    | cons c q =>
      have hc : c ≠ 45 := dec_ne (V / 1000000000) 45 (by unfold isDig; decide) c (by rw [hd]; simp)
      rw [hd, data_str] at this
      have hf : Lib.hasPrefix (c :: q ++ r) [45] = false := by simp [Lib.hasPrefix, List.isPrefixOf]; exact fun e => hc e.symm
      rw [show (⟨#[45]⟩ : ByteArray).data.toList = [45] from rfl, Lib.trimPrefix, hf] at this
      exact this
  have hz9 : ∀ W, Calls Tryz.prog 69 #[.string (str (List.replicate 9 48)), .int .i64 10] W fun e w' => e = .returned (.tuple #[.int .i64 ((0 : Nat) : Int), .int .i64 ((9 : Nat) : Int)]) ∧ Below W.heap.size W w' := by
    intro W
    exact fields_digits_calls10 (str (List.replicate 9 48)) W (by rw [str_size]; simp)
  have he9 : (str [] ++ (⟨#[48, 48, 48, 48, 48, 48, 48, 48, 48]⟩ : ByteArray)).extract 0 9 = str (List.replicate 9 48) := by
    apply ByteArray.ext
    apply Array.ext'
    rw [Lib.extract_data]
    rfl
  have hsec : secS V = if V % 1000000000 = 0 then Lib.decDigits (V / 1000000000) else Lib.decDigits (V / 1000000000) ++ [46] ++ Lib.trimRightB L 48 := by
    unfold secS
    rw [hL1]
    rfl
  unfold putSecS
  rw [hV, hsec]
  obtain ⟨x0, hx01, hx02, hx03⟩ := hpart [] (by simp) (by simp)
  obtain ⟨x, hx1, hx2, hx3⟩ := hpart (Lib.trimRightB L 48) hFd (by omega)
  by_cases hz : V % 1000000000 = 0 <;> by_cases hn : t < 0
  · rw [if_pos hz, if_pos hn]
    have := seconds_nw (str (45 :: Lib.decDigits (V / 1000000000))) (str (Lib.decDigits (V / 1000000000))) (str (Lib.decDigits (V / 1000000000))) (str []) (str (List.replicate 9 48)) (V / 1000000000) (Lib.decDigits (V / 1000000000)).length 0 0 9 x0 w hT hq (by omega) (by omega) hx01 hx02 hWp (by rw [str_size]) (by omega) (by rw [str_size]; rfl) (by omega) he9 (hpn _) hcutw hwhole hx03 hz9
    rw [show -(((V / 1000000000 : Nat) : Int) * 1000000000 + ((0 : Nat) : Int)) = t by omega] at this
    exact this
  · rw [if_pos hz, if_neg hn]
    have hpp0 := hpp []
    rw [List.append_nil] at hpp0
    have := seconds_pw (str (Lib.decDigits (V / 1000000000))) (str (Lib.decDigits (V / 1000000000))) (str (Lib.decDigits (V / 1000000000))) (str []) (str (List.replicate 9 48)) (V / 1000000000) (Lib.decDigits (V / 1000000000)).length 0 0 9 x0 w hT hq (by omega) (by omega) hx01 hx02 hWp (by rw [str_size]) (by omega) (by rw [str_size]; rfl) (by omega) he9 hpp0 hcutw hwhole hx03 hz9
    rw [show (((V / 1000000000 : Nat) : Int) * 1000000000 + ((0 : Nat) : Int)) = t by omega] at this
    exact this
  · rw [if_neg hz, if_pos hn]
    have hF := hF1 hz
    have := seconds_nf (str (45 :: (Lib.decDigits (V / 1000000000) ++ [46] ++ Lib.trimRightB L 48))) (str (Lib.decDigits (V / 1000000000) ++ [46] ++ Lib.trimRightB L 48)) (str (Lib.decDigits (V / 1000000000))) (str (Lib.trimRightB L 48)) (str L) (V / 1000000000) (Lib.decDigits (V / 1000000000)).length (Lib.trimRightB L 48).length (V % 1000000000) 9 x w hT hq (by omega) (by omega) hx1 hx2 hWp (by rw [str_size]) (by omega) hF (by rw [str_size]) (by omega) (hsplit _ (by rw [show 9 - (Lib.trimRightB L 48).length = k by omega]; exact hk) (by omega)) (hpn _) hcutf hwhole hx3 hnano
    rw [show -(((V / 1000000000 : Nat) : Int) * 1000000000 + ((V % 1000000000 : Nat) : Int)) = t by omega] at this
    exact this
  · rw [if_neg hz, if_neg hn]
    have hF := hF1 hz
    have hppf := hpp ([46] ++ Lib.trimRightB L 48)
    rw [← List.append_assoc] at hppf
    have := seconds_pf (str (Lib.decDigits (V / 1000000000) ++ [46] ++ Lib.trimRightB L 48)) (str (Lib.decDigits (V / 1000000000) ++ [46] ++ Lib.trimRightB L 48)) (str (Lib.decDigits (V / 1000000000))) (str (Lib.trimRightB L 48)) (str L) (V / 1000000000) (Lib.decDigits (V / 1000000000)).length (Lib.trimRightB L 48).length (V % 1000000000) 9 x w hT hq (by omega) (by omega) hx1 hx2 hWp (by rw [str_size]) (by omega) hF (by rw [str_size]) (by omega) (hsplit _ (by rw [show 9 - (Lib.trimRightB L 48).length = k by omega]; exact hk) (by omega)) hppf hcutf hwhole hx3 hnano
    rw [show (((V / 1000000000 : Nat) : Int) * 1000000000 + ((V % 1000000000 : Nat) : Int)) = t by omega] at this
    exact this
end Go.Proofs.YtkmcbpkciakmeaaGreatDoor.PA

/- The reader's state, and what its small functions answer of it. -/
set_option linter.unusedVariables false
set_option linter.unusedSimpArgs false
namespace Go.Proofs.YtkmcbpkciakmeaaGreatDoor.PA
open Go.RowKit Go.Proofs.YtkmcbpkciakmeaaGreatDoorW.PrintWords Go.Proofs.YtkmcbpkciakmeaaGreatDoorW.PrintLast Go.Proofs.YtkmcbpkciakmeaaGreatDoorW.PrintMore

structure RdAt (w0 : World) (p m1 m2 : Nat) (vb vt : Value) (most ents : Int) (nx : List KV) (W : World) : Prop where
  below : Below w0.heap.size w0 W
  blk : W.heap[p]? = some (.cells #[vb, vt, .int .i64 most, .int .i64 ents, .map (some m1), .map (some m2), .pointer none, .pointer none] 54 (0, 0))
  next : MapIs W m1 nx
  always : MapIs W m2 []
  p0 : w0.heap.size ≤ p
  m10 : w0.heap.size ≤ m1
  m20 : w0.heap.size ≤ m2
  ne1 : m1 ≠ p
  ne2 : m2 ≠ p
  ne12 : m1 ≠ m2
theorem RdAt.then_ {w0 : World} {p m1 m2 : Nat} {vb vt : Value} {most ents : Int} {nx : List KV} {W W' : World} (r : RdAt w0 p m1 m2 vb vt most ents nx W) (hb : Below W.heap.size W W') : RdAt w0 p m1 m2 vb vt most ents nx W' :=
  ⟨below_then r.below r.below.size hb, (hb.block _ (blk_lt r.blk)).trans r.blk, r.next.keep (hb.block _ r.next.lt), r.always.keep (hb.block _ r.always.lt), r.p0, r.m10, r.m20, r.ne1, r.ne2, r.ne12⟩
theorem RdAt.cell {w0 : World} {p m1 m2 : Nat} {vb vt : Value} {most ents : Int} {nx : List KV} {W : World} (r : RdAt w0 p m1 m2 vb vt most ents nx W) (j : Nat) : W.cell? ⟨p, j, none⟩ = (#[vb, vt, .int .i64 most, .int .i64 ents, .map (some m1), .map (some m2), .pointer none, .pointer none] : Array Value)[j]? := cell_of_row W p j _ 54 (0, 0) r.blk

set_option maxHeartbeats 1000000 in
set_option maxRecDepth 100000 in
theorem record_calls {w0 : World} {p m1 m2 : Nat} {vb vt : Value} {most ents : Int} {nx : List KV} {W : World} (r : RdAt w0 p m1 m2 vb vt most ents nx W) (k : ByteArray) :
    Calls Tryz.prog 55 #[.pointer (some ⟨p, 0, none⟩), .string k] W fun e w' => e = .returned (.tuple #[.string ((getS nx k).getD ⟨#[]⟩), .bool (getS nx k).isSome]) ∧ w' = W := by
  have c4 : W.cell? ⟨p, 4, none⟩ = some (.map (some m1)) := r.cell 4
  have c5 : W.cell? ⟨p, 5, none⟩ = some (.map (some m2)) := r.cell 5
  have l1 := run_lookup_S r.next k
  have l2 := run_lookup_S r.always k
  have hn : getS ([] : List KV) k = none := rfl
  rw [hn] at l2
  cases hg : getS nx k with
  | some v =>
    rw [hg] at l1
    simp only [Option.getD_some, Option.isSome_some] at l1
    clear r hg hn l2
    go_enter Tryz.func55, Tryz.ntmps55
    go_wp2
    go_ret2
    exact ⟨rfl, rfl⟩
  | none =>
    rw [hg] at l1
    simp only [Option.getD_none, Option.isSome_none] at l1 l2
    clear r hg hn
    go_enter Tryz.func55, Tryz.ntmps55
    go_wp2
    go_ret2
    exact ⟨rfl, rfl⟩
/-- What pick answers. -/
def pickS (nx : List KV) (k own : ByteArray) : ByteArray := (getS nx k).getD own
set_option maxHeartbeats 1000000 in
set_option maxRecDepth 100000 in
theorem pick_calls {w0 : World} {p m1 m2 : Nat} {vb vt : Value} {most ents : Int} {nx : List KV} {W : World} (r : RdAt w0 p m1 m2 vb vt most ents nx W) (k own : ByteArray) :
    Calls Tryz.prog 92 #[.pointer (some ⟨p, 0, none⟩), .string k, .pointer none, .string own] W fun e w' => e = .returned (.string (pickS nx k own)) ∧ w' = W := by
  have H := record_calls r k
  unfold pickS
  cases hg : getS nx k with
  | some v =>
    rw [hg] at H
    simp only [Option.getD_some, Option.isSome_some] at H ⊢
    have H := Aside0.mk H
    clear r hg
    go_enter Tryz.func92, Tryz.ntmps92
    go_wp2_with (first | (go_at_call 55; refine (H.out).mono ?_; rintro e w1 ⟨rfl, rfl⟩))
    go_ret
    exact ⟨rfl, rfl⟩
  | none =>
    rw [hg] at H
    simp only [Option.getD_none, Option.isSome_none] at H ⊢
    have H := Aside0.mk H
    clear r hg
    go_enter Tryz.func92, Tryz.ntmps92
    go_wp2_with (first | (go_at_call 55; refine (H.out).mono ?_; rintro e w1 ⟨rfl, rfl⟩))
    go_ret
    exact ⟨rfl, rfl⟩
def kTime : ByteArray := ⟨#[109, 116, 105, 109, 101]⟩
set_option maxHeartbeats 1000000 in
set_option maxRecDepth 100000 in
theorem when_field {w0 : World} {p m1 m2 : Nat} {vb vt : Value} {most ents : Int} {nx : List KV} {W : World} (r : RdAt w0 p m1 m2 vb vt most ents nx W) (s : Nat) (hs : s ≤ 9223372036) (hg : getS nx kTime = none) :
    Calls Tryz.prog 94 #[.pointer (some ⟨p, 0, none⟩), .int .i64 s] W fun e w' => e = .returned (.tuple #[.int .i64 ((s : Int) * 1000000000), .int .i64 0]) ∧ w' = W := by
  have H := record_calls r kTime
  rw [hg] at H
  simp only [Option.getD_none, Option.isSome_none, kTime] at H
  have H := Aside0.mk H
  have hs1 : (s : Int) ≤ 9223372036 := by omega
  have hw : wrap64 ((s : Int) * 1000000000) = (s : Int) * 1000000000 := by unfold wrap64; omega
  clear r hg
  go_enter Tryz.func94, Tryz.ntmps94
  go_wp2_with (first | (go_at_call 55; refine (H.out).mono ?_; rintro e w1 ⟨rfl, rfl⟩) | (go_at_call 132; go_in))
  go_ret2
  exact ⟨rfl, rfl⟩
set_option maxHeartbeats 1000000 in
set_option maxRecDepth 100000 in
theorem when_record {w0 : World} {p m1 m2 : Nat} {vb vt : Value} {most ents : Int} {nx : List KV} {W : World} (r : RdAt w0 p m1 m2 vb vt most ents nx W) (hT : Tabs W) (s : Nat) (t : Int) (ht : -9000000000000000000 ≤ t ∧ t ≤ 9000000000000000000) (hg : getS nx kTime = some (str (putSecS t))) :
    Calls Tryz.prog 94 #[.pointer (some ⟨p, 0, none⟩), .int .i64 s] W fun e w' => e = .returned (.tuple #[.int .i64 t, .int .i64 0]) ∧ Below W.heap.size W w' := by
  have H := record_calls r kTime
  rw [hg] at H
  simp only [Option.getD_some, Option.isSome_some, kTime] at H
  have H := Aside0.mk H
  have H2 := Aside0.mk (seconds_calls t W hT ht.1 ht.2)
  obtain ⟨S, hS⟩ : ∃ S, S = str (putSecS t) := ⟨_, rfl⟩
  rw [← hS] at H H2
  obtain ⟨h0, h1⟩ := ht
  clear r hg hS
  go_enter Tryz.func94, Tryz.ntmps94
  go_wp2_with (first | (go_at_call 55; refine (H.out).mono ?_; rintro e w1 ⟨rfl, rfl⟩) | (go_at_call 131; refine (H2.out).mono ?_; rintro e w2 ⟨rfl, hb2⟩))
  go_ret2
  exact ⟨rfl, hb2⟩
end Go.Proofs.YtkmcbpkciakmeaaGreatDoor.PA

/- The reader's state with the entries that it has, and what a store, an append and a clearing leave of it. -/
set_option linter.unusedVariables false
set_option linter.unusedSimpArgs false
namespace Go.Proofs.YtkmcbpkciakmeaaGreatDoor.PA
open Go.RowKit Go.Proofs.YtkmcbpkciakmeaaGreatDoorW.PrintWords Go.Proofs.YtkmcbpkciakmeaaGreatDoorW.PrintLast Go.Proofs.YtkmcbpkciakmeaaGreatDoorW.PrintMore

def kPath : ByteArray := ⟨#[112, 97, 116, 104]⟩
def kLink : ByteArray := ⟨#[108, 105, 110, 107, 112, 97, 116, 104]⟩
def kSize : ByteArray := ⟨#[115, 105, 122, 101]⟩
def kindN (k : UInt8) : Int := if k = 53 then 2 else if k = 50 then 3 else 1
def tgtS (nx : List KV) (h : Hd) : ByteArray := if h.kind = 50 then pickS nx kLink h.link else ⟨#[]⟩
/-- The reader, with the entries that it has. -/
structure RE (w0 : World) (p m1 m2 : Nat) (vb vt : Value) (most ents : Int) (nx : List KV) (xs : List S44) (W : World) : Prop where
  at_ : RdAt w0 p m1 m2 vb vt most ents nx W
  rows : Kd.R k44 44 W w0.heap.size (fun k => k ≠ p ∧ k ≠ m1 ∧ k ≠ m2) vt xs
theorem RE.then_ {w0 : World} {p m1 m2 : Nat} {vb vt : Value} {most ents : Int} {nx : List KV} {xs : List S44} {W W' : World} (r : RE w0 p m1 m2 vb vt most ents nx xs W) (hb : Below W.heap.size W W') : RE w0 p m1 m2 vb vt most ents nx xs W' := ⟨r.at_.then_ hb, Kd.R_below r.rows hb⟩
theorem RE.len {w0 : World} {p m1 m2 : Nat} {vb vt : Value} {most ents : Int} {nx : List KV} {xs : List S44} {W : World} (r : RE w0 p m1 m2 vb vt most ents nx xs W) : ∃ A c, vt = .slice A xs.length c := Kd.R_slice r.rows

structure EnAt (w : World) (h : Hd) (k : Int) (tg D : ByteArray) (W : World) : Prop where
  below : Below w.heap.size w W
  hb : W.heap[w.heap.size]? = some (.cells #[.string h.name, .string h.link, .int .i64 h.mode, .int .i64 h.size, .int .i64 h.time, .int .u8 h.kind.toNat] 80 (0, 0))
  xb : W.heap[w.heap.size + 1]? = some (.cells #[.int .i64 k, .string ⟨#[]⟩, .string tg, .int .i64 h.mode, .int .i64 0, .string D] 44 (0, 0))

theorem EnAt.start (w : World) (h : Hd) (k : Int) (D : ByteArray) : EnAt w h k ⟨#[]⟩ D ((w.alloc (Obj.cells #[.string h.name, .string h.link, .int .i64 h.mode, .int .i64 h.size, .int .i64 h.time, .int .u8 h.kind.toNat] 80)).alloc (Obj.cells #[.int .i64 k, .string ⟨#[]⟩, .string ⟨#[]⟩, .int .i64 h.mode, .int .i64 0, .string D] 44)) := by
  have hs : ∀ O, w.heap.size + 1 = (w.alloc O).heap.size := fun O => by simp
  refine ⟨below_alloc (below_alloc (Below.refl _ _) _) _, ?_, ?_⟩
  · rw [heap_alloc_old (w.alloc _) _ (show w.heap.size < (w.alloc _).heap.size by simp)]
    exact heap_alloc_new w _
  · rw [hs (Obj.cells #[.string h.name, .string h.link, .int .i64 h.mode, .int .i64 h.size, .int .i64 h.time, .int .u8 h.kind.toNat] 80)]
    exact heap_alloc_new _ _
theorem EnAt.setK {w : World} {h : Hd} {k : Int} {tg D : ByteArray} {W : World} (e : EnAt w h k tg D W) (k' : Int) : EnAt w h k' tg D (W.setCell ⟨w.heap.size + 1, 0, none⟩ (.int .i64 k')) := by
  have hrow := e.xb
  refine ⟨e.below.setCell (by simp) _, (Below.heap_setCell _ _ _ _ (by simp)).trans e.hb, ?_⟩
  simp only [World.setCell, Array.getElem?_modify, hrow, if_true, Option.map_some]
  rfl
theorem EnAt.setT {w : World} {h : Hd} {k : Int} {tg D : ByteArray} {W : World} (e : EnAt w h k tg D W) (tg' : ByteArray) : EnAt w h k tg' D (W.setCell ⟨w.heap.size + 1, 2, none⟩ (.string tg')) := by
  have hrow := e.xb
  refine ⟨e.below.setCell (by simp) _, (Below.heap_setCell _ _ _ _ (by simp)).trans e.hb, ?_⟩
  simp only [World.setCell, Array.getElem?_modify, hrow, if_true, Option.map_some]
  rfl
theorem EnAt.drew {w : World} {h : Hd} {k : Int} {tg D : ByteArray} {W : World} (e : EnAt w h k tg D W) : EnAt w h k tg D W.drew := ⟨below_drew e.below, e.hb, e.xb⟩
theorem EnAt.then_ {w : World} {h : Hd} {k : Int} {tg D : ByteArray} {W W' : World} (e : EnAt w h k tg D W) (hb : Below W.heap.size W W') : EnAt w h k tg D W' :=
  ⟨below_then e.below e.below.size hb, (hb.block _ (blk_lt e.hb)).trans e.hb, (hb.block _ (blk_lt e.xb)).trans e.xb⟩
theorem u8_eqF {k b : UInt8} (h : k ≠ b) : ((k.toNat : Int) == (b.toNat : Int)) = false := by
  rw [beq_eq_false_iff_ne]; intro e; exact h (UInt8.toNat_inj.1 (by omega))

structure EnF (w : World) (x : S44) (W : World) : Prop where
  below : Below w.heap.size w W
  xb : W.heap[w.heap.size + 1]? = some (.cells #[.int .i64 x.f0, .string x.f1, .string x.f2, .int .i64 x.f3, .int .i64 x.f4, .string x.f5] 44 (0, 0))
theorem EnAt.fin {w : World} {h : Hd} {k : Int} {tg D : ByteArray} {W : World} (e : EnAt w h k tg D W) (P : ByteArray) (t : Int) : EnF w ⟨k, P, tg, h.mode, t, D⟩ ((W.setCell ⟨w.heap.size + 1, 1, none⟩ (.string P)).setCell ⟨w.heap.size + 1, 4, none⟩ (.int .i64 t)) := by
  have hrow := e.xb
  refine ⟨(e.below.setCell (by simp) _).setCell (by simp) _, ?_⟩
  simp only [World.setCell, Array.getElem?_modify, hrow, if_true, Option.map_some]
  rfl
theorem EnF.drewN {w : World} {x : S44} {W : World} (e : EnF w x W) (n : Nat) : EnF w x (W.drewN n) := ⟨pw_below_drewN e.below n, ((pw_below_drewN (Below.refl _ _) n).block _ (blk_lt e.xb)).trans e.xb⟩
section
variable {w0 : World} {p m1 m2 : Nat} {vb vt : Value} {most ents : Int} {nx : List KV} {xs : List S44} {W : World}
theorem RE.cells (r : RE w0 p m1 m2 vb vt most ents nx xs W) : W.cell? ⟨p, 0, none⟩ = some vb ∧ W.cell? ⟨p, 1, none⟩ = some vt ∧ W.cell? ⟨p, 2, none⟩ = some (.int .i64 most) ∧ W.cell? ⟨p, 3, none⟩ = some (.int .i64 ents) ∧ W.cell? ⟨p, 4, none⟩ = some (.map (some m1)) ∧ W.cell? ⟨p, 5, none⟩ = some (.map (some m2)) ∧ W.cell? ⟨p, 6, none⟩ = some (.pointer none) ∧ W.cell? ⟨p, 7, none⟩ = some (.pointer none) ∧ ∀ j, W.frozen? ⟨p, j, none⟩ = false :=
  ⟨r.at_.cell 0, r.at_.cell 1, r.at_.cell 2, r.at_.cell 3, r.at_.cell 4, r.at_.cell 5, r.at_.cell 6, r.at_.cell 7, fun j => blk_frozen r.at_.blk _⟩
theorem RdAt.setMost (r : RdAt w0 p m1 m2 vb vt most ents nx W) (k : Int) : RdAt w0 p m1 m2 vb vt k ents nx (W.setCell ⟨p, 2, none⟩ (.int .i64 k)) := by
  have hrow := r.blk
  refine ⟨r.below.setCell r.p0 _, ?_, r.next.keep (Below.heap_setCell _ _ _ _ r.ne1), r.always.keep (Below.heap_setCell _ _ _ _ r.ne2), r.p0, r.m10, r.m20, r.ne1, r.ne2, r.ne12⟩
  simp only [World.setCell, Array.getElem?_modify, hrow, if_true, Option.map_some]
  rfl
theorem RdAt.setB (r : RdAt w0 p m1 m2 vb vt most ents nx W) (v : Value) : RdAt w0 p m1 m2 v vt most ents nx (W.setCell ⟨p, 0, none⟩ v) := by
  have hrow := r.blk
  refine ⟨r.below.setCell r.p0 _, ?_, r.next.keep (Below.heap_setCell _ _ _ _ r.ne1), r.always.keep (Below.heap_setCell _ _ _ _ r.ne2), r.p0, r.m10, r.m20, r.ne1, r.ne2, r.ne12⟩
  simp only [World.setCell, Array.getElem?_modify, hrow, if_true, Option.map_some]
  rfl
theorem RdAt.setT (r : RdAt w0 p m1 m2 vb vt most ents nx W) (v : Value) : RdAt w0 p m1 m2 vb v most ents nx (W.setCell ⟨p, 1, none⟩ v) := by
  have hrow := r.blk
  refine ⟨r.below.setCell r.p0 _, ?_, r.next.keep (Below.heap_setCell _ _ _ _ r.ne1), r.always.keep (Below.heap_setCell _ _ _ _ r.ne2), r.p0, r.m10, r.m20, r.ne1, r.ne2, r.ne12⟩
  simp only [World.setCell, Array.getElem?_modify, hrow, if_true, Option.map_some]
  rfl
theorem RdAt.set67 (r : RdAt w0 p m1 m2 vb vt most ents nx W) : RdAt w0 p m1 m2 vb vt most ents nx ((W.setCell ⟨p, 6, none⟩ (.pointer none)).setCell ⟨p, 7, none⟩ (.pointer none)) := by
  have hrow := r.blk
  refine ⟨(r.below.setCell r.p0 _).setCell r.p0 _, ?_, r.next.keep ((Below.heap_setCell _ _ _ _ r.ne1).trans (Below.heap_setCell _ _ _ _ r.ne1)), r.always.keep ((Below.heap_setCell _ _ _ _ r.ne2).trans (Below.heap_setCell _ _ _ _ r.ne2)), r.p0, r.m10, r.m20, r.ne1, r.ne2, r.ne12⟩
  simp only [World.setCell, Array.getElem?_modify, hrow, if_true, Option.map_some]
  rfl
theorem RE.setMost (r : RE w0 p m1 m2 vb vt most ents nx xs W) (k : Int) : RE w0 p m1 m2 vb vt k ents nx xs (W.setCell ⟨p, 2, none⟩ (.int .i64 k)) := ⟨r.at_.setMost k, Kd.R_far (p := ⟨p, 2, none⟩) r.rows (fun _ hk => hk.1) _⟩
theorem RE.setB (r : RE w0 p m1 m2 vb vt most ents nx xs W) (v : Value) : RE w0 p m1 m2 v vt most ents nx xs (W.setCell ⟨p, 0, none⟩ v) := ⟨r.at_.setB v, Kd.R_far (p := ⟨p, 0, none⟩) r.rows (fun _ hk => hk.1) _⟩
theorem RE.set67 (r : RE w0 p m1 m2 vb vt most ents nx xs W) : RE w0 p m1 m2 vb vt most ents nx xs ((W.setCell ⟨p, 6, none⟩ (.pointer none)).setCell ⟨p, 7, none⟩ (.pointer none)) := ⟨r.at_.set67, Kd.R_far (p := ⟨p, 7, none⟩) (Kd.R_far (p := ⟨p, 6, none⟩) r.rows (fun _ hk => hk.1) _) (fun _ hk => hk.1) _⟩
theorem RE.drewN (r : RE w0 p m1 m2 vb vt most ents nx xs W) (n : Nat) : RE w0 p m1 m2 vb vt most ents nx xs (W.drewN n) := r.then_ (pw_below_drewN (Below.refl _ _) n)
/-- After the append of an entry. -/
theorem RE.grown {w1 : World} {v1 : Value} {ys : List S44} (r : RE w0 p m1 m2 vb vt most ents nx xs W) (hr : Kd.R k44 44 w1 w0.heap.size (fun k => k ≠ p ∧ k ≠ m1 ∧ k ≠ m2) v1 ys) (hb : Below w0.heap.size w0 w1) (hg : W.grownBy w1 vt.ownBlock) :
    RE w0 p m1 m2 vb v1 most ents nx ys (w1.setCell ⟨p, 1, none⟩ v1) := by
  have hq := r.rows.1
  have hp : some p ≠ vt.ownBlock := fun e => (hq p e.symm).1 rfl
  have h1 : some m1 ≠ vt.ownBlock := fun e => (hq m1 e.symm).2.1 rfl
  have h2 : some m2 ≠ vt.ownBlock := fun e => (hq m2 e.symm).2.2 rfl
  have a := r.at_
  have b : RdAt w0 p m1 m2 vb vt most ents nx w1 := ⟨hb, (hg.block _ (blk_lt a.blk) hp).trans a.blk, a.next.keep (hg.block _ a.next.lt h1), a.always.keep (hg.block _ a.always.lt h2), a.p0, a.m10, a.m20, a.ne1, a.ne2, a.ne12⟩
  exact ⟨b.setT v1, Kd.R_far (p := ⟨p, 1, none⟩) hr (fun _ hk => hk.1) _⟩
theorem RE.clear_ {W' : World} (r : RE w0 p m1 m2 vb vt most ents nx xs W) (hm : MapIs W' m1 []) (hs : W'.heap.size = W.heap.size) (ho : ∀ j, j ≠ m1 → W'.heap[j]? = W.heap[j]?) (hb : ∀ B w0, Below B w0 W → B ≤ m1 → Below B w0 W') : RE w0 p m1 m2 vb vt most ents [] xs W' := by
  have a := r.at_
  exact ⟨⟨hb _ _ a.below a.m10, (ho p (Ne.symm a.ne1)).trans a.blk, hm, a.always.keep (ho m2 (Ne.symm a.ne12)), a.p0, a.m10, a.m20, a.ne1, a.ne2, a.ne12⟩, Kd.R_move r.rows (fun k hk => ho k hk.2.1)⟩
end
theorem wpList_clear_S {W : World} {ops : Array Oper} {rest : List Oper} {o : Oper} {a : Act} {Q : Exit → Act → World → Prop} (hgd : o.guard = none) (d : Operand)
    (ho : o.op = .call { callee := .builtin .clear, args := #[d], argTypes := #[51] }) (b : Nat) (l : List KV) (hd : a.eval d = .map (some b)) (hm : MapIs W b l)
    (h : ∀ W', MapIs W' b [] → W'.heap.size = W.heap.size → (∀ j, j ≠ b → W'.heap[j]? = W.heap[j]?) → (∀ B w0, Below B w0 W → B ≤ b → Below B w0 W') → wpList Tryz.prog ops Q rest (a.put o.dst (.tuple #[])) W') : wpList Tryz.prog ops Q (o :: rest) a W := by
  refine wpList_plain hgd fun _ hK => ?_
  obtain ⟨W', hrun, h1, h2, h3, h4⟩ := run_clear_S o.type hm
  unfold Oper.wp execOp
  simp only [ho, resolve, invoke, builtin, Sem.run_bind, Sem.run_pure, Result.andThen_ok, List.map_toArray, List.map_cons, List.map_nil, hd, hrun]
  exact hK _ _ (h _ h1 h2 h3 h4)
end Go.Proofs.YtkmcbpkciakmeaaGreatDoor.PA

/- An entry that is fine, as a reader finds it: name, target, mode, time, data; no program in sight. -/
set_option linter.unusedVariables false
set_option linter.unusedSimpArgs false
namespace Go.Proofs.YtkmcbpkciakmeaaGreatDoor.PA
open Go.RowKit Go.Proofs.YtkmcbpkciakmeaaGreatDoorW.PrintWords Go.Proofs.YtkmcbpkciakmeaaGreatDoorW.PrintLast Go.Proofs.YtkmcbpkciakmeaaGreatDoorW.PrintMore

theorem idx0_free : ∀ l : Bytes, Lib.indexByte l 0 < 0 → ∀ b ∈ l, b ≠ 0 := by
  intro l h
  rcases first_cases l 0 with h1 | ⟨a, r, rfl, ha⟩
  · exact h1
  · rw [idx0_at r a ha] at h; omega
theorem right_clean {x : S44} (h : rightS x = true) : cleanS x.f1.data.toList = (x.f1.data.toList, 0) := by
  unfold rightS at h
  simp only [Bool.and_eq_true, decide_eq_true_eq] at h
  exact Prod.ext h.1.1.1.2 h.1.1.1.1
theorem clean_free {l : Bytes} (h : (cleanS l).2 = 0) : ∀ b ∈ l, b ≠ 0 := by
  unfold cleanS at h
  split at h
  · simp at h
  · rename_i hc
    exact idx0_free l (by have := (not_or.1 (not_or.1 hc).2).2; omega)
theorem clean_ne {l : Bytes} (h : cleanS l = (l, 0)) : l ≠ [] := by
  rintro rfl
  have h1 := congrArg Prod.snd h
  unfold cleanS at h
  split at h
  · simp at h
  · unfold cleanEnd at h
    split at h
    · simp at h
    · split at h
      · simp at h
      · rename_i hc
        exact (not_or.1 hc).1 (congrArg Prod.fst h)
theorem Fine.free1 {x : S44} (h : Fine x) : ∀ b ∈ x.f1.data.toList, b ≠ 0 := clean_free (by rw [right_clean h.right])
theorem Fine.ne1 {x : S44} (h : Fine x) : x.f1.data.toList ≠ [] := clean_ne (right_clean h.right)
theorem empty_of {s : ByteArray} (h : s.toList.isEmpty = true) : s = ⟨#[]⟩ := by
  rw [Lib.toList_data, List.isEmpty_iff] at h
  apply ByteArray.ext
  apply Array.ext'
  exact h
theorem Fine.kinds {x : S44} (h : Fine x) : (x.f0 = 1 ∧ x.f2 = ⟨#[]⟩) ∨ (x.f0 = 2 ∧ x.f2 = ⟨#[]⟩ ∧ x.f5 = ⟨#[]⟩) ∨ (x.f0 = 3 ∧ x.f5 = ⟨#[]⟩ ∧ targetS x.f2.data.toList = true) := by
  have hr := h.right
  unfold rightS at hr
  simp only [Bool.and_eq_true, decide_eq_true_eq] at hr
  have h6 := hr.2
  unfold kindS at h6
  split at h6
  · rename_i k; exact .inl ⟨k, empty_of h6⟩
  · split at h6
    · rename_i k
      simp only [Bool.and_eq_true] at h6
      exact .inr (.inl ⟨k, empty_of h6.2, empty_of h6.1⟩)
    · split at h6
      · rename_i k
        simp only [Bool.and_eq_true] at h6
        exact .inr (.inr ⟨k, empty_of h6.1, h6.2⟩)
      · simp at h6
theorem Fine.free2 {x : S44} (h : Fine x) : ∀ b ∈ x.f2.data.toList, b ≠ 0 := by
  rcases h.kinds with ⟨-, e⟩ | ⟨-, e, -⟩ | ⟨-, -, e⟩
  · rw [e]; intro b hb; cases hb
  · rw [e]; intro b hb; cases hb
  · unfold targetS at e
    simp only [Bool.and_eq_true, decide_eq_true_eq] at e
    exact idx0_free _ (by have := e.1.2; omega)
theorem Fine.hd {x : S44} (h : Fine x) : HdGood (hdX x (secsOf x.f4)) := by
  have hm := h.mode; have hd := h.data; have hs := secsOf_lt x.f4
  refine ⟨⟨octL_fit8 (show x.f3.toNat < 2097152 by omega), octL_fit12 (show x.f5.size < 8589934592 by omega), octL_fit12 hs, show x.f3.toNat ≤ _ by omega, show x.f5.size ≤ _ by omega, show secsOf x.f4 ≤ _ by omega⟩, h.free1, h.free2⟩
theorem pax_free : ∀ b ∈ bPax, b ≠ 0 := by decide
theorem hdP_good (n : Nat) (h : n < 8589934592) : HdGood (hdP n) := ⟨hdP_fits n h, pax_free, by intro b hb; cases hb⟩
/-! ### what the records say -/
theorem getS_nil (k : ByteArray) : getS [] k = none := rfl
theorem getS_app (l m : List KV) (k : ByteArray) : getS (l ++ m) k = (getS l k).or (getS m k) := by
  unfold getS
  rw [List.find?_append]
  cases List.find? (fun p => decide (p.1 = k)) l <;> rfl
theorem getS_one (a v k : ByteArray) : getS [(a, v)] k = if a = k then some v else none := by
  unfold getS
  by_cases h : a = k
  · rw [if_pos h]; simp [List.find?, h]
  · rw [if_neg h]; simp [List.find?, h]
theorem k_path : str bPath = kPath := rfl
theorem k_link : str bLink = kLink := rfl
theorem k_time : str bTime = kTime := rfl
theorem ba_ne {a b : ByteArray} (h : a.data.toList ≠ b.data.toList) : a ≠ b := fun e => h (by rw [e])
theorem kne_pl : kPath ≠ kLink := ba_ne (by decide)
theorem kne_pt : kPath ≠ kTime := ba_ne (by decide)
theorem kne_lt : kLink ≠ kTime := ba_ne (by decide)
theorem kne_ps : kPath ≠ kSize := ba_ne (by decide)
theorem kne_ls : kLink ≠ kSize := ba_ne (by decide)
theorem kne_ts : kTime ≠ kSize := ba_ne (by decide)
theorem get_1 (x : S44) (k : ByteArray) : getS (recs1 x) k = if kPath = k ∧ 100 < x.f1.size then some x.f1 else none := by
  unfold recs1
  split
  · rw [getS_one, k_path]
    rename_i h
    by_cases e : kPath = k <;> simp [e, h]
  · rename_i h
    rw [getS_nil, if_neg (fun c => h c.2)]
theorem get_2 (x : S44) (k : ByteArray) : getS (recs2 x) k = (getS (recs1 x) k).or (if kLink = k ∧ 100 < x.f2.size then some x.f2 else none) := by
  unfold recs2
  split
  · rw [getS_app, getS_one, k_link]
    rename_i h
    by_cases e : kLink = k <;> simp [e, h]
  · rename_i h
    rw [if_neg (fun c => h c.2)]; simp
theorem get_3 (x : S44) (k : ByteArray) : getS (recs3 x) k = (getS (recs2 x) k).or (if kTime = k ∧ easy x.f4 = false then some (str (putSecS x.f4)) else none) := by
  unfold recs3
  split
  · rename_i h
    rw [if_neg (fun c => by rw [h] at c; simp at c)]; simp
  · rename_i h
    have h2 : easy x.f4 = false := by simpa using h
    rw [getS_app, getS_one, k_time]
    by_cases e : kTime = k <;> simp [e, h2]
theorem get_path (x : S44) : getS (recs3 x) kPath = if 100 < x.f1.size then some x.f1 else none := by
  rw [get_3, get_2, get_1]
  by_cases h : 100 < x.f1.size <;> simp [h, Ne.symm kne_pl, Ne.symm kne_pt]
theorem get_link (x : S44) : getS (recs3 x) kLink = if 100 < x.f2.size then some x.f2 else none := by
  rw [get_3, get_2, get_1]
  by_cases h : 100 < x.f2.size <;> simp [h, kne_pl, Ne.symm kne_lt]
theorem get_time (x : S44) : getS (recs3 x) kTime = if easy x.f4 = false then some (str (putSecS x.f4)) else none := by
  rw [get_3, get_2, get_1, if_neg (fun c => kne_pt c.1), if_neg (fun c => kne_lt c.1)]
  by_cases h : easy x.f4 = false <;> simp [h]
theorem get_size (x : S44) : getS (recs3 x) kSize = none := by
  rw [get_3, get_2, get_1, if_neg (fun c => kne_ps c.1), if_neg (fun c => kne_ls c.1), if_neg (fun c => kne_ts c.1)]
  rfl
theorem take_all {s : ByteArray} (h : ¬ 100 < s.size) : str (s.data.toList.take 100) = s := by
  rw [List.take_of_length_le (by rw [data_length]; omega), str_data]
theorem pick_path (x : S44) : pickS (recs3 x) kPath (rdH (hdX x (secsOf x.f4))).name = x.f1 := by
  unfold pickS
  rw [get_path]
  split
  · rfl
  · rename_i h
    exact take_all h
theorem pick_link (x : S44) : pickS (recs3 x) kLink (rdH (hdX x (secsOf x.f4))).link = x.f2 := by
  unfold pickS
  rw [get_link]
  split
  · rfl
  · rename_i h
    exact take_all h
theorem Fine.kind_ {x : S44} (h : Fine x) : kindN (kindB x.f0) = x.f0 := by
  rcases h.kind with e | e | e <;> rw [e] <;> rfl
theorem Fine.tgt {x : S44} (h : Fine x) : tgtS (recs3 x) (rdH (hdX x (secsOf x.f4))) = x.f2 := by
  have e : (rdH (hdX x (secsOf x.f4))).kind = kindB x.f0 := rfl
  unfold tgtS
  rw [e]
  rcases h.kinds with ⟨k, e⟩ | ⟨k, e, -⟩ | ⟨k, -, -⟩
  · rw [k, e]; rfl
  · rw [k, e]; rfl
  · rw [k, pick_link]; rfl
theorem recs_good {x : S44} (h : Fine x) : ∀ y ∈ recs3 x, GoodKV y := by
  have ht := h.time
  have hs := recs3_size x h.path h.link (by omega) (by omega)
  have key : ∀ y ∈ recs3 x, y.1 = kPath ∨ y.1 = kLink ∨ y.1 = kTime := by
    intro y hy
    unfold recs3 recs2 recs1 at hy
    split at hy <;> split at hy <;> split at hy <;> simp only [List.mem_append, List.mem_singleton, List.not_mem_nil, false_or, or_false] at hy
    all_goals first
      | exact hy.elim
      | (rcases hy with (h | h) | h <;> subst h <;> simp [k_path, k_link, k_time])
      | (rcases hy with h | h <;> subst h <;> simp [k_path, k_link, k_time])
      | (subst hy; simp [k_path, k_link, k_time])
  intro y hy
  have h1 := hs y hy
  rcases key y hy with e | e | e
  all_goals exact ⟨by rw [e]; decide, by rw [e]; decide, by omega⟩
theorem recs_fresh (x : S44) : ∀ i, i < (recs3 x).length → getS ((recs3 x).take i) ((recs3 x).getD i zKV).1 = none := by
  have a := kne_pl; have b := kne_pt; have c := kne_lt
  rw [← k_path, ← k_link] at a
  rw [← k_path, ← k_time] at b
  rw [← k_link, ← k_time] at c
  unfold recs3 recs2 recs1
  intro i hi
  split at hi <;> split at hi <;> split at hi <;> simp only [List.length_append, List.length_cons, List.length_nil] at hi
  all_goals
    rcases i with _ | _ | _ | i
    all_goals first
      | omega
      | (simp [*, getS, List.find?, List.getD])
end Go.Proofs.YtkmcbpkciakmeaaGreatDoor.PA
