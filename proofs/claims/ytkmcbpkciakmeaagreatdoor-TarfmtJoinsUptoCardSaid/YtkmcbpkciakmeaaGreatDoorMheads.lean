/- Sums, zeros, headers written, times written, plain laws on texts. -/
import Derived.Test.YtkmcbpkciakmeaaGreatDoorMfields
import Derived.Test.YtkmcbpkciakmeaaGreatDoorMprinted
import Derived.Deep.RegionLaw

/- tarfmt.sum by its plain form; nothing turns but the orders drawn. -/
set_option linter.unusedVariables false
set_option linter.unusedSimpArgs false
namespace Go.Proofs.YtkmcbpkciakmeaaGreatDoor.PA
open Go.RowKit Go.Proofs.YtkmcbpkciakmeaaGreatDoorW.PrintWords Go.Proofs.YtkmcbpkciakmeaaGreatDoorW.PrintLast Go.Proofs.YtkmcbpkciakmeaaGreatDoorW.PrintMore
theorem wrap64_in (n : Int) (h : -9223372036854775808 ≤ n ∧ n ≤ 9223372036854775807) : wrap64 n = n := by unfold wrap64; omega
def sumFrom : Bytes → Nat → Nat
  | [], _ => 0
  | b :: l, i => (if 148 ≤ i ∧ i < 156 then 32 else b.toNat) + sumFrom l (i + 1)
def sumS (l : Bytes) : Nat := sumFrom l 0
theorem sumFrom_le : ∀ (l : Bytes) (i : Nat), sumFrom l i ≤ 255 * l.length
  | [], _ => by simp [sumFrom]
  | b :: l, i => by
    have h1 := sumFrom_le l (i + 1)
    have h2 := b.toNat_lt
    rw [sumFrom, List.length_cons]
    split <;> omega
theorem rd_ints (l : Bytes) (i : Nat) (h : i < l.length) : rd (ints l) (i : Int) = (l[i].toNat : Int) := by
  simp [rd, ints, List.getD_eq_getElem?_getD, List.getElem?_eq_getElem h]
theorem sum_l0 (l : Bytes) (hl : l.length ≤ 1000000) : ∀ (d k i acc : Nat), l.length - i = d → i ≤ l.length → d < k → acc ≤ 255 * i → tarfmt_sum.l0 k acc (ints l) (l.length : Int) (i : Int) = some ((acc + sumFrom (l.drop i) i : Nat) : Int)
  | 0, k, i, acc, hd, hi, hk, ha => by
    obtain ⟨k, rfl⟩ : ∃ k', k = k' + 1 := ⟨k - 1, by omega⟩
    rw [tarfmt_sum.l0, if_neg (by omega), List.drop_of_length_le (by omega)]
    simp [sumFrom]
  | d + 1, k, i, acc, hd, hi, hk, ha => by
    obtain ⟨k, rfl⟩ : ∃ k', k = k' + 1 := ⟨k - 1, by omega⟩
    have hil : i < l.length := by omega
    have hb := (l[i]).toNat_lt
    have hdr : l.drop i = l[i] :: l.drop (i + 1) := by rw [List.drop_eq_getElem_cons hil]
    have w1 : wrap64 ((i : Int) + 1) = ((i + 1 : Nat) : Int) := by rw [wrap64_in _ (by omega)]; rfl
    have w2 : wrap64 ((acc : Int) + 32) = ((acc + 32 : Nat) : Int) := by rw [wrap64_in _ (by omega)]; rfl
    have w3 : wrap64 ((acc : Int) + (wrap64 ((l[i].toNat : Nat) : Int))) = ((acc + l[i].toNat : Nat) : Int) := by rw [wrap64_in ((l[i].toNat : Nat) : Int) (by omega), wrap64_in _ (by omega)]; rfl
    rw [tarfmt_sum.l0, if_pos (by omega), if_pos (by omega), if_pos (by rw [ints_length]; omega), rd_ints l i hil, w1, w2, w3, hdr, sumFrom]
    by_cases h1 : 148 ≤ i
    · by_cases h2 : i < 156
      · rw [if_pos (by omega), if_pos (by omega), if_pos ⟨h1, h2⟩, sum_l0 l hl d k (i + 1) (acc + 32) (by omega) (by omega) (by omega) (by omega)]
        congr 2; omega
      · rw [if_pos (by omega), if_neg (by omega), if_neg (by omega), sum_l0 l hl d k (i + 1) (acc + l[i].toNat) (by omega) (by omega) (by omega) (by omega)]
        congr 2; omega
    · rw [if_neg (by omega), if_neg (by omega), sum_l0 l hl d k (i + 1) (acc + l[i].toNat) (by omega) (by omega) (by omega) (by omega)]
      congr 2; omega
theorem sum_f (l : Bytes) (hl : l.length ≤ 1000000) : tarfmt_sum.f (l.length + 1) (ints l) = some (sumS l : Int) := by
  unfold tarfmt_sum.f
  rw [ints_length]
  have := sum_l0 l hl l.length (l.length + 1) 0 0 (by omega) (by omega) (by omega) (by omega)
  simpa [sumS] using this
theorem sum_calls (A : Option Addr) (n c : Nat) (l : Bytes) (hl : l.length ≤ 1000000) (w : World) (h : RB w (.slice A n c) l) :
    Calls Tryz.prog 80 #[.slice A n c] w fun e w' => e = .returned (.int .i64 (sumS l)) ∧ Below w.heap.size w w' := by
  obtain ⟨rfl, hc, hr⟩ := h.ints
  have h1 := tarfmt_sum.calls (l.length + 1) A c (ints l) (sumS l : Int) w (by rw [ints_length]; exact Kd.C_of_reads hr) (by rw [ints_length]; exact hc) (sum_f l hl)
  rw [ints_length] at h1
  refine h1.mono ?_
  rintro e w' ⟨he, hd⟩
  exact ⟨he, hd.below⟩
end Go.Proofs.YtkmcbpkciakmeaaGreatDoor.PA

/- append(b, make([]byte, m)...) and what a header and its filling are; one's own row alone is written, and new blocks. -/
set_option linter.unusedVariables false
set_option linter.unusedSimpArgs false
namespace Go.Proofs.YtkmcbpkciakmeaaGreatDoor.PA
open Go.RowKit Go.Proofs.YtkmcbpkciakmeaaGreatDoorW.PrintWords Go.Proofs.YtkmcbpkciakmeaaGreatDoorW.PrintLast Go.Proofs.YtkmcbpkciakmeaaGreatDoorW.PrintMore

theorem zeroCells_bytes (m : Nat) : Builtin.zeroCells (Value.int .u8 0).cells m = (Lib.byteCells (List.replicate m 0)).toArray := by
  apply Array.ext
  · simp [Builtin.zeroCells, Lib.byteCells, Value.cells]
  · intro i h1 h2
    simp [Builtin.zeroCells, Lib.byteCells, Value.cells, Nat.mod_one]

theorem run_append_zeros_bin {w : World} {B : Nat} {v : Value} {l : Bytes} (hB : B ≤ w.heap.size) (hv : Bin w B v l) (m : Nat) (hlen : l.length + m ≤ 140737488355328) (ty : TypeId) :
    ∃ v' w', (Builtin.append_ #[25, 3] ty #[v, .int .i64 m]).run Tryz.prog w = .ok v' w' ∧ Bin w' B v' (l ++ List.replicate m 0) ∧ w.grownBy w' v.ownBlock ∧ (v'.ownBlock = v.ownBlock ∨ v'.ownBlock = some w.heap.size) := by
  obtain ⟨i, hi, hz, h1, h2⟩ := info5_parts
  have ht := Tryz.underlying25
  have hti : Tryz.prog.underlying 3 = some (.int .i64) := by kernel_rfl
  have hw : IntKind.i64.wrap (m : Int) = m := by rw [IntKind.wrap_i64]; omega
  have hw0 : IntKind.i64.wrap 0 = 0 := by rw [IntKind.wrap_i64]; rfl
  have hneg : ¬ ((m : Int) < 0) := by omega
  have hbig : ¬ (281474976710656 < (m : Int)) := by omega
  obtain ⟨zs, hzs⟩ : ∃ zs : Bytes, zs = List.replicate m 0 := ⟨_, rfl⟩
  have hzl : zs.length = m := by rw [hzs, List.length_replicate]
  have hna : Builtin.zeroCells (Value.int .u8 0).cells m = (Lib.byteCells zs).toArray := by rw [hzs, zeroCells_bytes]
  rw [← hzs]
  by_cases hm : m = 0
  · subst hm
    obtain rfl : zs = [] := hzs
    refine ⟨v, w, ?_, by simpa using hv, World.grownBy.refl w _, .inl rfl⟩
    rcases hv with ⟨rfl, rfl⟩ | ⟨g, cap, rfl, _, _, h3, _⟩
    · simp [Builtin.append_, run_underlying ht, run_underlying hti, sizeOf, typeInfo, hi, asInt, asIntOf, hw0]
    · simp [Builtin.append_, run_underlying ht, run_underlying hti, sizeOf, typeInfo, hi, asInt, asIntOf, hw0, h3, storeCells]
  · have runs : ∀ (A : Option Addr) (cap : Nat), cap < l.length + m → (Builtin.firstCells i.size l.length (.slice A l.length cap)).run Tryz.prog w.drew = .ok (Lib.byteCells l).toArray w.drew → (Builtin.append_ #[25, 3] ty #[.slice A l.length cap, .int .i64 m]).run Tryz.prog w =
        .ok (.slice (some ⟨w.heap.size, 0, none⟩) (l.length + m) (grownCap w (l.length + m) cap 5)) (w.drew.alloc (.cells ((Lib.byteCells l).toArray ++ (Lib.byteCells zs).toArray ++ Builtin.zeroCells (Value.int .u8 0).cells (grownCap w (l.length + m) cap 5 - (l.length + m))) 5)) := by
      intro A cap hcap hfo
      have hn : ¬ (l.length + m ≤ cap) := by omega
      have h63' : ¬ (9223372036854775807 < ((l.length : Int) + (m : Int))) := by omega
      have hfit := growslice_fits (bytes := i.bytes) hcap (by rw [h2]; omega)
      have h48' : ¬ (281474976710656 < Builtin.nextslicecap (l.length + m) cap * i.bytes) := by omega
      rw [h1] at hfo
      rw [h2, Nat.mul_one] at h48'
      simp [Builtin.append_, run_underlying ht, run_underlying hti, sizeOf, typeInfo, zeroValue, hi, hz, asInt, asIntOf, hw, hneg, hbig, hn, h63', h48', Question.forced, hfo, newRow, grownCap, hm, hna, h1, h2]
      simp only [← Array.append_assoc, List.append_toArray]
    have done : ∀ cap, cap < l.length + m → Bin (w.drew.alloc (.cells ((Lib.byteCells l).toArray ++ (Lib.byteCells zs).toArray ++ Builtin.zeroCells (Value.int .u8 0).cells (grownCap w (l.length + m) cap 5 - (l.length + m))) 5)) B (.slice (some ⟨w.heap.size, 0, none⟩) (l.length + m) (grownCap w (l.length + m) cap 5)) (l ++ zs) := by
      intro cap hcap
      have hge := grownCap_ge w (l.length + m) cap 5
      have hcm := grownCap_le_maxLen w (l.length + m) cap 5 (by simp only [maxLen]; omega)
      simp only [maxLen] at hcm
      have := Bin.alloc_row hB (l ++ zs) (grownCap w (l.length + m) cap 5) (by rw [List.length_append, hzl]; exact hge) hcm
      rw [Lib.byteCells_append, ← List.append_toArray, List.length_append, hzl] at this
      exact this
    rcases hv with ⟨rfl, rfl⟩ | ⟨g, cap, rfl, h3, h3', h4, h5, h6, h7⟩
    · exact ⟨_, _, runs none 0 (by simp; omega) (by simp [Builtin.firstCells, Lib.byteCells]), done 0 (by simp; omega), ⟨rfl, rfl, rfl, by simp, fun k hk _ => heap_alloc_old w.drew _ hk⟩, .inr rfl⟩
    · by_cases hroom : l.length + m ≤ cap
      · have hst := run_storeCells_cells (P := Tryz.prog) g l.length (Lib.byteCells zs) 0 w (fun j hj => (h6 _ (by rw [Lib.byteCells_length] at hj; omega)).1) (fun j hj => (h6 _ (by rw [Lib.byteCells_length] at hj; omega)).2) (byteCells_one zs)
        rw [Nat.add_zero] at hst
        refine ⟨.slice (some ⟨g, 0, none⟩) (l.length + m) cap, w.setCells g l.length (Lib.byteCells zs), ?_, ?_, ?_, .inl rfl⟩
        · simp [Builtin.append_, run_underlying ht, run_underlying hti, sizeOf, typeInfo, zeroValue, hi, hz, asInt, asIntOf, hw, hneg, hbig, hroom, hm, hna, add_plain, hst, h1, h2]
        · have hsome : ∀ j, j < (Lib.byteCells zs).length → (w.cell? ⟨g, l.length + j, none⟩).isSome = true := fun j hj => (h6 _ (by rw [Lib.byteCells_length] at hj; omega)).1
          have hin := World.cell?_setCells_in g (Lib.byteCells zs) l.length w hsome
          have hsz : (w.setCells g l.length (Lib.byteCells zs)).heap.size = w.heap.size := (setCells_same g _ _ w).2.2.2
          have hout : ∀ j, j < l.length ∨ l.length + (Lib.byteCells zs).length ≤ j → (w.setCells g l.length (Lib.byteCells zs)).cell? ⟨g, j, none⟩ = w.cell? ⟨g, j, none⟩ := fun j hj => World.cell?_setCells_out g _ _ w ⟨g, j, none⟩ (fun _ _ => hj)
          rw [Lib.byteCells_length, hzl] at hout
          refine .inr ⟨g, cap, by rw [List.length_append, hzl], h3, by omega, by rw [List.length_append, hzl]; exact hroom, h5, fun j hj => ⟨?_, ?_⟩, fun j u hu => ?_⟩
          · by_cases hb : j < l.length ∨ l.length + m ≤ j
            · rw [hout j hb]; exact (h6 j hj).1
            · have := hin (j - l.length) (by rw [Lib.byteCells_length]; omega)
              rw [show l.length + (j - l.length) = j by omega] at this
              rw [this]; rfl
          · rw [World.frozen?_setCells]; exact (h6 j hj).2
          · rw [Lib.byteCells_append] at hu
            by_cases hb : j < l.length
            · rw [List.getElem?_append_left (by rw [Lib.byteCells_length]; exact hb)] at hu
              rw [hout j (.inl hb)]
              exact h7 j u hu
            · rw [List.getElem?_append_right (by rw [Lib.byteCells_length]; omega), Lib.byteCells_length] at hu
              have hjm : j - l.length < (Lib.byteCells zs).length := (List.getElem?_eq_some_iff.1 hu).1
              have := hin (j - l.length) hjm
              rw [show l.length + (j - l.length) = j by omega] at this
              rw [this, ← hu, List.getElem?_eq_getElem hjm]
        · have hs := setCells_same g (Lib.byteCells zs) l.length w
          exact ⟨hs.1, hs.2.1, hs.2.2.1, Nat.le_of_eq hs.2.2.2.symm, fun k _ hk => setCells_far _ _ k (fun e => hk (by simp [Value.ownBlock, e]))⟩
      · have hl : (Lib.byteCells l).length = l.length * i.size := by rw [Lib.byteCells_length, h1, Nat.mul_one]
        exact ⟨_, _, runs _ cap (by omega) (run_firstCells_some (P := Tryz.prog) w.drew i.size l.length _ l.length cap (Lib.byteCells l) hl (fun j u hu => by rw [add_plain]; exact h7 j u hu)), done cap (by omega), ⟨rfl, rfl, rfl, by simp, fun k hk _ => heap_alloc_old w.drew _ hk⟩, .inr rfl⟩

section
variable {w : World}
theorem wp_append_zeros_bin {o : Oper} {a : Act} {K : Act → World → Prop} {Q : Exit → Act → World → Prop} (s x : Operand)
    (ho : o.op = .call { callee := .builtin .append, args := #[s, x], argTypes := #[25, 3] })
    (B : Nat) (v : Value) (l : Bytes) (m : Nat) (hs : a.eval s = v) (hx : a.eval x = .int .i64 m) (hv : Bin w B v l) (hlen : l.length + m ≤ 140737488355328) (hB : B ≤ w.heap.size)
    (h : ∀ v' w', Bin w' B v' (l ++ List.replicate m 0) → w.grownBy w' v.ownBlock → (v'.ownBlock = v.ownBlock ∨ v'.ownBlock = some w.heap.size) → K (a.put o.dst v') w') : o.wp Tryz.prog a w K Q := by
  obtain ⟨v', w', hrun, h2, h3, h4⟩ := run_append_zeros_bin hB hv m hlen o.type
  unfold Oper.wp execOp
  simp only [ho, resolve, invoke, builtin, Sem.run_bind, Sem.run_pure, Result.andThen_ok, List.map_toArray, List.map_cons, List.map_nil, hs, hx, hrun]
  exact h v' w' h2 h3 h4
theorem wpList_append_zeros_bin {ops : Array Oper} {rest : List Oper} {o : Oper} {a : Act} {Q : Exit → Act → World → Prop} (hgd : o.guard = none) (s x : Operand)
    (ho : o.op = .call { callee := .builtin .append, args := #[s, x], argTypes := #[25, 3] })
    (B : Nat) (v : Value) (l : Bytes) (m : Nat) (hs : a.eval s = v) (hx : a.eval x = .int .i64 m) (hv : Bin w B v l) (hlen : l.length + m ≤ 140737488355328) (hB : B ≤ w.heap.size)
    (h : ∀ v' w', Bin w' B v' (l ++ List.replicate m 0) → w.grownBy w' v.ownBlock → (v'.ownBlock = v.ownBlock ∨ v'.ownBlock = some w.heap.size) → wpList Tryz.prog ops Q rest (a.put o.dst v') w') : wpList Tryz.prog ops Q (o :: rest) a w :=
  wpList_plain hgd fun _ hK => wp_append_zeros_bin s x ho B v l m hs hx hv hlen hB fun v' w' h2 h3 h4 => hK _ _ (h v' w' h2 h3 h4)
end

/-- A text's bytes, filled up with zeros to whole blocks. -/
def fillS (l : Bytes) : Bytes := l ++ List.replicate ((512 - l.length % 512) % 512) 0

set_option maxHeartbeats 1000000 in
set_option maxRecDepth 100000 in
theorem filled_calls (s : ByteArray) (w : World) (hs : s.size ≤ 70368744177664) :
    Calls Tryz.prog 47 #[.string s] w fun e w' => ∃ v, e = .returned v ∧ Bin w' w.heap.size v (fillS s.data.toList) ∧ Below w.heap.size w w' := by
  obtain ⟨v, w1, hrun, hbin, hb⟩ := run_conv_bin s w (by omega)
  have hbin := Aside0.mk (hbin w.heap.size (Nat.le_refl _))
  obtain ⟨m, hm⟩ : ∃ m : Nat, m = (512 - s.size % 512) % 512 := ⟨_, rfl⟩
  have hmi : Aside0 ((512 - (s.size : Int) % 512) % 512 = (m : Int)) := ⟨by omega⟩
  have hml : m < 512 := by omega
  have HF : Aside0 (fillS s.data.toList = s.data.toList ++ List.replicate m 0) := ⟨by unfold fillS; rw [data_length, ← hm]⟩
  clear hm
  go_enter Tryz.func47, Tryz.ntmps47
  go_wp2_with (first | ((with_reducible refine gate_builtin (b := .append) (xs := #[.tmp 4, .tmp 9]) rfl ?_); at_builtin; rw [hmi.out]; refine wpList_append_zeros_bin rfl (.tmp 4) (.tmp 9) rfl w.heap.size v s.data.toList m rfl rfl hbin.out (by rw [data_length]; omega) hb.size ?_; intro v2 w2 hb2 hg2 hat2))
  go_ret
  exact ⟨_, rfl, by rw [HF.out]; exact hb2, below_grown' hb hbin.out hg2⟩
end Go.Proofs.YtkmcbpkciakmeaaGreatDoor.PA

/- tarfmt.put writes a header: the walk; new blocks alone are written. -/
set_option linter.unusedVariables false
set_option linter.unusedSimpArgs false
namespace Go.Proofs.YtkmcbpkciakmeaaGreatDoor.PA
open Go.RowKit Go.Proofs.YtkmcbpkciakmeaaGreatDoorW.PrintWords Go.Proofs.YtkmcbpkciakmeaaGreatDoorW.PrintLast Go.Proofs.YtkmcbpkciakmeaaGreatDoorW.PrintMore

/-! ### what a header is -/
def zeros (n : Nat) : Bytes := List.replicate n 0
theorem zeros_length (n : Nat) : (zeros n).length = n := List.length_replicate
def ustarB : Bytes := [117, 115, 116, 97, 114, 0, 48, 48]
def head0 (name link : Bytes) : Bytes := lay (lay (zeros 512) 0 (name.take 100)) 157 (link.take 100)
def head1 (name link : Bytes) (mode size time : Nat) : Nat → Bytes
  | 0 => head0 name link
  | 1 => lay (head0 name link) 100 (octField mode 8)
  | 2 => lay (lay (head0 name link) 100 (octField mode 8)) 124 (octField size 12)
  | _ => lay (lay (lay (head0 name link) 100 (octField mode 8)) 124 (octField size 12)) 136 (octField time 12)
def head2 (name link : Bytes) (mode size time : Nat) (kind : UInt8) : Bytes := lay (lay (head1 name link mode size time 3) 156 [kind]) 257 ustarB
def headS (name link : Bytes) (mode size time : Nat) (kind : UInt8) : Bytes := lay (head2 name link mode size time kind) 148 (octField (sumS (head2 name link mode size time kind)) 8)

theorem under108 : Tryz.prog.underlying 108 = some (.array 3 107) := by kernel_rfl
theorem info107 : (Tryz.prog.info? 107).map (fun i => i.size) = some 3 := by kernel_rfl
theorem desc107 : Tryz.prog.underlying 107 = some (.array 3 3) := by kernel_rfl
theorem index108_0 (a0 a1 a2 a3 a4 a5 a6 a7 a8 : Value) (W : World) : (Instr.index 108 (.agg #[a0, a1, a2, a3, a4, a5, a6, a7, a8]) (.int .i64 0)).run Tryz.prog W = .ok (.agg #[a0, a1, a2]) W := by
  obtain ⟨i, hi⟩ : ∃ i, Tryz.prog.info? 107 = some i := by
    cases h : Tryz.prog.info? 107 with
    | none => have := info107; rw [h] at this; cases this
    | some i => exact ⟨i, rfl⟩
  have hs : i.size = 3 := by have := info107; rw [hi] at this; simpa using this
  simp [Instr.index, asIntOf, run_underlying under108, part, sizeOf, typeInfo, hi, hs, isAgg, run_underlying desc107]
theorem index108_1 (a0 a1 a2 a3 a4 a5 a6 a7 a8 : Value) (W : World) : (Instr.index 108 (.agg #[a0, a1, a2, a3, a4, a5, a6, a7, a8]) (.int .i64 1)).run Tryz.prog W = .ok (.agg #[a3, a4, a5]) W := by
  obtain ⟨i, hi⟩ : ∃ i, Tryz.prog.info? 107 = some i := by
    cases h : Tryz.prog.info? 107 with
    | none => have := info107; rw [h] at this; cases this
    | some i => exact ⟨i, rfl⟩
  have hs : i.size = 3 := by have := info107; rw [hi] at this; simpa using this
  simp [Instr.index, asIntOf, run_underlying under108, part, sizeOf, typeInfo, hi, hs, isAgg, run_underlying desc107]
theorem index108_2 (a0 a1 a2 a3 a4 a5 a6 a7 a8 : Value) (W : World) : (Instr.index 108 (.agg #[a0, a1, a2, a3, a4, a5, a6, a7, a8]) (.int .i64 2)).run Tryz.prog W = .ok (.agg #[a6, a7, a8]) W := by
  obtain ⟨i, hi⟩ : ∃ i, Tryz.prog.info? 107 = some i := by
    cases h : Tryz.prog.info? 107 with
    | none => have := info107; rw [h] at this; cases this
    | some i => exact ⟨i, rfl⟩
  have hs : i.size = 3 := by have := info107; rw [hi] at this; simpa using this
  simp [Instr.index, asIntOf, run_underlying under108, part, sizeOf, typeInfo, hi, hs, isAgg, run_underlying desc107]
theorem octL_len : ∀ (n v : Nat), v < 8 ^ (n + 1) → (octL v).length ≤ n + 1
  | 0, v, h => by rw [octL_lt (by omega)]; simp
  | n + 1, v, h => by
    rcases Nat.lt_or_ge v 8 with h1 | h1
    · rw [octL_lt h1]; simp
    · rw [octL_ge h1, List.length_append]
      have := octL_len n (v / 8) (by rw [Nat.pow_succ] at h; omega)
      simp; omega
theorem octL_fit8 {v : Nat} (h : v < 2097152) : (octL v).length < 8 := by
  have := octL_len 6 v (by omega)
  omega
theorem octL_fit12 {v : Nat} (h : v < 8589934592) : (octL v).length < 12 := by
  have := octL_len 10 v (by omega)
  omega
theorem head0_len (name link : Bytes) : (head0 name link).length = 512 := by
  unfold head0
  rw [lay_length, lay_length, zeros_length]
  · rw [zeros_length, List.length_take]; omega
  · rw [lay_length, zeros_length, List.length_take]
    · omega
    · rw [zeros_length, List.length_take]; omega
theorem head1_len (name link : Bytes) (mode size time : Nat) (h1 : (octL mode).length < 8) (h2 : (octL size).length < 12) (h3 : (octL time).length < 12) : (head1 name link mode size time 3).length = 512 := by
  have e1 := octField_length mode 8 h1
  have e2 := octField_length size 12 h2
  have e3 := octField_length time 12 h3
  have e0 := head0_len name link
  have f1 : (lay (head0 name link) 100 (octField mode 8)).length = 512 := by rw [lay_length _ _ _ (by omega), e0]
  have f2 : (lay (lay (head0 name link) 100 (octField mode 8)) 124 (octField size 12)).length = 512 := by rw [lay_length _ _ _ (by omega), f1]
  show (lay (lay (lay (head0 name link) 100 (octField mode 8)) 124 (octField size 12)) 136 (octField time 12)).length = 512
  rw [lay_length _ _ _ (by omega), f2]
theorem head2_len (name link : Bytes) (mode size time : Nat) (kind : UInt8) (h1 : (octL mode).length < 8) (h2 : (octL size).length < 12) (h3 : (octL time).length < 12) : (head2 name link mode size time kind).length = 512 := by
  have e := head1_len name link mode size time h1 h2 h3
  have f : (lay (head1 name link mode size time 3) 156 [kind]).length = 512 := by rw [lay_length _ _ _ (by simp; omega), e]
  unfold head2
  rw [lay_length _ _ _ (by rw [f]; decide), f]
structure Hd where
  name : ByteArray
  link : ByteArray
  mode : Nat
  size : Nat
  time : Nat
  kind : UInt8
def hdV (h : Hd) : Value := .agg #[.string h.name, .string h.link, .int .i64 h.mode, .int .i64 h.size, .int .i64 h.time, .int .u8 h.kind.toNat]
def Hd.fits (h : Hd) : Prop := (octL h.mode).length < 8 ∧ (octL h.size).length < 12 ∧ (octL h.time).length < 12 ∧ h.mode ≤ 4611686018427387904 ∧ h.size ≤ 4611686018427387904 ∧ h.time ≤ 4611686018427387904
def hdS (h : Hd) : Bytes := headS h.name.data.toList h.link.data.toList h.mode h.size h.time h.kind

theorem madeCells_zeros (n : Nat) : madeCells (Value.int .u8 0).cells n = (Lib.byteCells (zeros n)).toArray := by
  apply Array.ext
  · simp [zeros, madeCells, Lib.byteCells]
  · intro i h1 h2
    simp [zeros, madeCells, Lib.byteCells, Value.cells, Nat.mod_one]
def Z512 : Array Value := (Lib.byteCells (zeros 512)).toArray
theorem make512 (W : World) : (Instr.makeSlice 25 (.int .i64 512) (.int .i64 512)).run Tryz.prog W = .ok (.slice (some ⟨W.heap.size, 0, none⟩) 512 512) (W.alloc (.cells Z512 5)) := by
  obtain ⟨i, hi, hz, h1, h2⟩ := info5_parts
  rw [run_makeSlice W 25 5 i (.int .u8 0) Tryz.underlying25 hi hz .i64 .i64 512 512 (by omega) (by omega) (by rw [h1]; decide) (by rw [h2]; decide) (by omega)]
  rw [h1, madeCells_zeros]
  rfl
theorem row_Z512 (W : World) : Row (W.alloc (.cells Z512 5)) W.heap.size (zeros 512) := heap_alloc_new W _

/-- What the walk knows: the header's own box, and the row. -/
structure PutAt (w0 : World) (bx g : Nat) (h : Hd) (l : Bytes) (W : World) : Prop where
  below : Below w0.heap.size w0 W
  row : Row W g l
  len : l.length = 512
  lo : w0.heap.size ≤ bx
  lg : bx < g
  c0 : W.cell? ⟨bx, 0, none⟩ = some (.string h.name)
  c1 : W.cell? ⟨bx, 1, none⟩ = some (.string h.link)
  c2 : W.cell? ⟨bx, 2, none⟩ = some (.int .i64 h.mode)
  c3 : W.cell? ⟨bx, 3, none⟩ = some (.int .i64 h.size)
  c4 : W.cell? ⟨bx, 4, none⟩ = some (.int .i64 h.time)
  c5 : W.cell? ⟨bx, 5, none⟩ = some (.int .u8 h.kind.toNat)
theorem PutAt.only {w0 : World} {bx g : Nat} {h : Hd} {l m : Bytes} {W W' : World} (p : PutAt w0 bx g h l W) (off : Nat) (hr : Row W' g (lay l off m)) (ho : Only W W' g) (hl : off + m.length ≤ 512) : PutAt w0 bx g h (lay l off m) W' := by
  have hne : ∀ j, W'.cell? ⟨bx, j, none⟩ = W.cell? ⟨bx, j, none⟩ := fun j => ho.cell (by have := p.lg; simp; omega)
  exact ⟨ho.below _ _ p.below (Nat.le_trans p.lo (Nat.le_of_lt p.lg)), hr, by rw [lay_length _ _ _ (by rw [p.len]; exact hl)]; exact p.len, p.lo, p.lg, (hne 0).trans p.c0, (hne 1).trans p.c1, (hne 2).trans p.c2, (hne 3).trans p.c3, (hne 4).trans p.c4, (hne 5).trans p.c5⟩
theorem PutAt.then_ {w0 : World} {bx g : Nat} {h : Hd} {l : Bytes} {W W' : World} (p : PutAt w0 bx g h l W) (hb : Below W.heap.size W W') : PutAt w0 bx g h l W' := by
  have hg := p.row.lt
  have hne : ∀ j, W'.cell? ⟨bx, j, none⟩ = W.cell? ⟨bx, j, none⟩ := fun j => hb.cell (p := ⟨bx, j, none⟩) (Nat.lt_trans p.lg hg)
  exact ⟨below_then p.below p.below.size hb, p.row.keep (hb.block _ hg), p.len, p.lo, p.lg, (hne 0).trans p.c0, (hne 1).trans p.c1, (hne 2).trans p.c2, (hne 3).trans p.c3, (hne 4).trans p.c4, (hne 5).trans p.c5⟩

theorem lay_set (l : Bytes) (i : Nat) (b : UInt8) (h : i < l.length) : lay l i [b] = l.set i b := by
  unfold lay
  rw [List.set_eq_take_append_cons_drop, if_pos h]
  rfl
theorem PutAt.set {w0 : World} {bx g : Nat} {h : Hd} {l : Bytes} {W : World} (p : PutAt w0 bx g h l W) (i : Nat) (b : UInt8) (hi : i < 512) : PutAt w0 bx g h (lay l i [b]) (W.setCell ⟨g, i, none⟩ (.int .u8 b.toNat)) := by
  refine p.only i ?_ ⟨fun B w0' hb hg => hb.setCell hg _, fun k hk => Below.heap_setCell _ _ _ _ hk, by simp [World.setCell]⟩ (by simp; omega)
  rw [lay_set _ _ _ (by rw [p.len]; exact hi)]
  unfold Row
  have hrow : W.heap[g]? = some (.cells (Lib.byteCells l).toArray 5 (0, 0)) := p.row
  simp only [World.setCell, Array.getElem?_modify, hrow, if_true, Option.map_some]
  congr 2
  apply Array.ext'
  simp [Lib.byteCells, List.map_set]
theorem PutAt.at_ {w0 : World} {bx g : Nat} {h : Hd} {l : Bytes} {W : World} (p : PutAt w0 bx g h l W) (i : Nat) (hi : i < 512) : (∃ v, W.cell? ⟨g, i, none⟩ = some v) ∧ W.frozen? ⟨g, i, none⟩ = false := by
  refine ⟨?_, blk_frozen p.row _⟩
  rw [cell_of_row W g i _ 5 (0, 0) p.row, Array.getElem?_eq_getElem (by simp [Lib.byteCells_length, p.len]; exact hi)]
  exact ⟨_, rfl⟩
theorem PutAt.reads {w0 : World} {bx g : Nat} {h : Hd} {l : Bytes} {W : World} (p : PutAt w0 bx g h l W) : RB W (.slice (some ⟨g, 0, none⟩) 512 512) l := by
  have := p.row.reads l.length (Nat.le_refl _) (by rw [p.len]; omega)
  rw [p.len] at this
  exact this

set_option maxHeartbeats 2000000 in
set_option maxRecDepth 100000 in
theorem put_calls (h : Hd) (w : World) (hT : Tabs w) (hf : h.fits) :
    Calls Tryz.prog 46 #[hdV h] w fun e w' => ∃ g, e = .returned (.slice (some ⟨g, 0, none⟩) 512 512) ∧ w.heap.size ≤ g ∧ Row w' g (hdS h) ∧ Below w.heap.size w w' := by
  have hmk := make512
  have HF := Aside0.mk hf
  have HT := Aside0.mk hT
  clear hf hT
  obtain ⟨name, link, mode, size, time, kind⟩ := h
  simp only [hdV]
  go_enter Tryz.func46, Tryz.ntmps46
  go_wp2_with fail
  obtain ⟨W1, hW1⟩ : ∃ W1, W1 = (w.alloc (Obj.cells #[Value.string name, Value.string link, Value.int IntKind.i64 mode, Value.int IntKind.i64 size, Value.int IntKind.i64 time, Value.int IntKind.u8 kind.toNat] 80)).alloc (.cells Z512 5) := ⟨_, rfl⟩
  have hP : PutAt w w.heap.size (w.heap.size + 1) ⟨name, link, mode, size, time, kind⟩ (zeros 512) W1 := by
    subst hW1
    refine ⟨below_alloc (below_alloc (Below.refl _ _) _) _, ?_, zeros_length _, Nat.le_refl _, by omega, ?_, ?_, ?_, ?_, ?_, ?_⟩
    · have := row_Z512 (w.alloc (Obj.cells #[Value.string name, Value.string link, Value.int IntKind.i64 mode, Value.int IntKind.i64 size, Value.int IntKind.i64 time, Value.int IntKind.u8 kind.toNat] 80))
      simpa using this
    all_goals simp
  rw [← hW1]
  clear hW1
  obtain ⟨bx, hbx⟩ : ∃ bx, bx = w.heap.size := ⟨_, rfl⟩
  obtain ⟨g, hg⟩ : ∃ g, g = w.heap.size + 1 := ⟨_, rfl⟩
  have hgl : Aside0 (w.heap.size ≤ g) := ⟨by omega⟩
  rw [← hg, ← hbx] at hP
  rw [← hg, ← hbx]
  clear hg hbx hmk
  have HP := Aside0.mk hP
  have c0 := hP.c0
  clear hP
  go_region_law (refine step_copy_str rfl (.tmp 12) (.tmp 14) rfl g 0 100 512 name (zeros 512) rfl rfl HP.out.row (by rw [HP.out.len]; decide) ?_; intro W2 hr2 ho2)
  have hP := (HP.out.then_ (below_drew (Below.refl _ _))).only 0 hr2 ho2 (by rw [List.length_take]; omega)
  have HP := Aside0.mk hP
  have c1 := hP.c1
  clear hP hr2 ho2 c0
  go_wp2
  go_region_law (refine step_copy_str rfl (.tmp 17) (.tmp 19) rfl g 157 100 355 link _ rfl rfl HP.out.row (by rw [HP.out.len]; decide) ?_; intro W3 hr3 ho3)
  have hP := (HP.out.then_ (below_drew (Below.refl _ _))).only 157 hr3 ho3 (by rw [List.length_take]; omega)
  have HP := Aside0.mk hP
  have c2 := hP.c2
  have c3 := hP.c3
  have c4 := hP.c4
  clear hP hr3 ho3 c1
  go_wp2_with fail
  go_loopw [31] (fun v31 wr => ∃ k : Nat, v31 = .int .i64 k ∧ k ≤ 3 ∧ Aside0 (PutAt w bx g ⟨name, link, mode, size, time, kind⟩ (head1 name.data.toList link.data.toList mode size time k) wr)) (fun v31 _ => 3 - (intOf v31).toNat)
  case atStart => exact ⟨0, rfl, by omega, HP⟩
  case round =>
    obtain ⟨k, rfl, hk, hA⟩ := hrel
    have hk2 : k = 0 ∨ k = 1 ∨ k = 2 ∨ k = 3 := by omega
    rcases hk2 with rfl | rfl | rfl | rfl
    · have hix : ∀ W, (Instr.index 108 (.agg #[.int .i64 mode, .int .i64 100, .int .i64 8, .int .i64 size, .int .i64 124, .int .i64 12, .int .i64 time, .int .i64 136, .int .i64 12]) (.int .i64 0)).run Tryz.prog W = .ok (.agg #[.int .i64 mode, .int .i64 100, .int .i64 8]) W := fun W => index108_0 _ _ _ _ _ _ _ _ _ W
      have hT1 : Tabs (wr.alloc (Obj.cells #[Value.int .i64 mode, Value.int .i64 100, Value.int .i64 8] 107)) := (HT.out.below hA.out.below).alloc _
      have hq1 := HF.out.1
      have hq2 : mode ≤ 4611686018427387904 := by obtain ⟨_, _, _, h1, h2, h3⟩ := HF.out; dsimp only at h1 h2 h3; assumption
      have H79 := Aside0.mk (putOctal_calls mode 8 _ hT1 hq2 (by omega) (by omega) hq1)
      have hol : (octField mode 8).length = 8 := octField_length mode 8 hq1
      clear hT1 hq1 hq2
      go_wp2_with (first | (go_at_call 79; refine (H79.out).mono ?_; rintro e w1 ⟨r, rfl, hr, hb⟩; have hcx : w1.cell? ⟨wr.heap.size, 1, none⟩ = some (.int .i64 100) := (hb.cell (p := ⟨wr.heap.size, 1, none⟩) (by simp)).trans (by simp); have hPx := (hA.out.then_ (below_alloc (Below.refl _ _) _)).then_ hb; have HPx := Aside0.mk hPx; clear hPx) | ((with_reducible refine gate_builtin (b := .copy) (xs := #[.tmp 45, .tmp 46]) rfl ?_); refine wpList_copy_bin rfl (.tmp 45) (.tmp 46) rfl g 100 (512 - 100) (512 - 100) r (octField mode 8) _ rfl rfl hr (by rw [hol]; decide) (by rw [hol]; decide) HPx.out.row (by rw [HPx.out.len]; decide) ?_; intro w5 hr5 ho5))
      have HN := Aside0.mk (HPx.out.only 100 hr5 ho5 (by rw [hol]; decide))
      go_roundw
      case rel => exact ⟨1, rfl, by omega, HN⟩
      case measure => decide
    · have hix : ∀ W, (Instr.index 108 (.agg #[.int .i64 mode, .int .i64 100, .int .i64 8, .int .i64 size, .int .i64 124, .int .i64 12, .int .i64 time, .int .i64 136, .int .i64 12]) (.int .i64 1)).run Tryz.prog W = .ok (.agg #[.int .i64 size, .int .i64 124, .int .i64 12]) W := fun W => index108_1 _ _ _ _ _ _ _ _ _ W
      have hT1 : Tabs (wr.alloc (Obj.cells #[Value.int .i64 size, Value.int .i64 124, Value.int .i64 12] 107)) := (HT.out.below hA.out.below).alloc _
      have hq1 := HF.out.2.1
      have hq2 : size ≤ 4611686018427387904 := by obtain ⟨_, _, _, h1, h2, h3⟩ := HF.out; dsimp only at h1 h2 h3; assumption
      have H79 := Aside0.mk (putOctal_calls size 12 _ hT1 hq2 (by omega) (by omega) hq1)
      have hol : (octField size 12).length = 12 := octField_length size 12 hq1
      clear hT1 hq1 hq2
      go_wp2_with (first | (go_at_call 79; refine (H79.out).mono ?_; rintro e w1 ⟨r, rfl, hr, hb⟩; have hcx : w1.cell? ⟨wr.heap.size, 1, none⟩ = some (.int .i64 124) := (hb.cell (p := ⟨wr.heap.size, 1, none⟩) (by simp)).trans (by simp); have hPx := (hA.out.then_ (below_alloc (Below.refl _ _) _)).then_ hb; have HPx := Aside0.mk hPx; clear hPx) | ((with_reducible refine gate_builtin (b := .copy) (xs := #[.tmp 45, .tmp 46]) rfl ?_); refine wpList_copy_bin rfl (.tmp 45) (.tmp 46) rfl g 124 (512 - 124) (512 - 124) r (octField size 12) _ rfl rfl hr (by rw [hol]; decide) (by rw [hol]; decide) HPx.out.row (by rw [HPx.out.len]; decide) ?_; intro w5 hr5 ho5))
      have HN := Aside0.mk (HPx.out.only 124 hr5 ho5 (by rw [hol]; decide))
      go_roundw
      case rel => exact ⟨2, rfl, by omega, HN⟩
      case measure => decide
    · have hix : ∀ W, (Instr.index 108 (.agg #[.int .i64 mode, .int .i64 100, .int .i64 8, .int .i64 size, .int .i64 124, .int .i64 12, .int .i64 time, .int .i64 136, .int .i64 12]) (.int .i64 2)).run Tryz.prog W = .ok (.agg #[.int .i64 time, .int .i64 136, .int .i64 12]) W := fun W => index108_2 _ _ _ _ _ _ _ _ _ W
      have hT1 : Tabs (wr.alloc (Obj.cells #[Value.int .i64 time, Value.int .i64 136, Value.int .i64 12] 107)) := (HT.out.below hA.out.below).alloc _
      have hq1 := HF.out.2.2.1
      have hq2 : time ≤ 4611686018427387904 := by obtain ⟨_, _, _, h1, h2, h3⟩ := HF.out; dsimp only at h1 h2 h3; assumption
      have H79 := Aside0.mk (putOctal_calls time 12 _ hT1 hq2 (by omega) (by omega) hq1)
      have hol : (octField time 12).length = 12 := octField_length time 12 hq1
      clear hT1 hq1 hq2
      go_wp2_with (first | (go_at_call 79; refine (H79.out).mono ?_; rintro e w1 ⟨r, rfl, hr, hb⟩; have hcx : w1.cell? ⟨wr.heap.size, 1, none⟩ = some (.int .i64 136) := (hb.cell (p := ⟨wr.heap.size, 1, none⟩) (by simp)).trans (by simp); have hPx := (hA.out.then_ (below_alloc (Below.refl _ _) _)).then_ hb; have HPx := Aside0.mk hPx; clear hPx) | ((with_reducible refine gate_builtin (b := .copy) (xs := #[.tmp 45, .tmp 46]) rfl ?_); refine wpList_copy_bin rfl (.tmp 45) (.tmp 46) rfl g 136 (512 - 136) (512 - 136) r (octField time 12) _ rfl rfl hr (by rw [hol]; decide) (by rw [hol]; decide) HPx.out.row (by rw [HPx.out.len]; decide) ?_; intro w5 hr5 ho5))
      have HN := Aside0.mk (HPx.out.only 136 hr5 ho5 (by rw [hol]; decide))
      go_roundw
      case rel => exact ⟨3, rfl, by omega, HN⟩
      case measure => decide
    · have hP := hA.out
      have c5 := hP.c5
      obtain ⟨⟨v156, hv156⟩, hf156⟩ := hP.at_ 156 (by omega)
      have HPs := Aside0.mk (hP.set 156 kind (by omega))
      clear hP
      obtain ⟨L6, hL6⟩ : ∃ L6, L6 = head2 name.data.toList link.data.toList mode size time kind := ⟨_, rfl⟩
      have HL6 := Aside0.mk hL6
      have hs8 : (octL (sumS L6)).length < 8 := octL_fit8 (by have hle := sumFrom_le L6 0; have hl : L6.length = 512 := (by rw [hL6]; exact head2_len _ _ _ _ _ _ HF.out.1 HF.out.2.1 HF.out.2.2.1); rw [hl] at hle; show sumFrom L6 0 < 2097152; omega)
      have hsv : sumS L6 ≤ 4611686018427387904 := by have hle := sumFrom_le L6 0; have hl : L6.length = 512 := (by rw [hL6]; exact head2_len _ _ _ _ _ _ HF.out.1 HF.out.2.1 HF.out.2.2.1); rw [hl] at hle; show sumFrom L6 0 ≤ 4611686018427387904; omega
      have hol : (octField (sumS L6) 8).length = 8 := octField_length _ 8 hs8
      have HS8 := Aside0.mk hs8
      clear hL6 hs8
      go_wp2_with (first | ((with_reducible refine gate_builtin (b := .copy) (xs := #[.tmp 54, .const (.string ⟨#[117, 115, 116, 97, 114, 0, 48, 48]⟩)]) rfl ?_); refine wpList_copy_str rfl (.tmp 54) (.const (.string ⟨#[117, 115, 116, 97, 114, 0, 48, 48]⟩)) rfl g 257 255 255 ⟨#[117, 115, 116, 97, 114, 0, 48, 48]⟩ _ rfl rfl HPs.out.row (by rw [HPs.out.len]; decide) ?_; intro w6 hr6 ho6; have hPu : PutAt w bx g ⟨name, link, mode, size, time, kind⟩ L6 w6 := (by have := HPs.out.only 257 hr6 ho6 (by decide); rw [HL6.out]; exact this); have HPu := Aside0.mk hPu; clear hPu) | (go_at_call 80; refine (sum_calls (some ⟨g, 0, none⟩) 512 512 L6 (by rw [HPu.out.len]; decide) _ HPu.out.reads).mono ?_; rintro e w7 ⟨rfl, hb7⟩; have HP7 := Aside0.mk (HPu.out.then_ hb7)) | (go_at_call 79; refine (putOctal_calls (sumS L6) 8 _ (HT.out.below HP7.out.below) hsv (by omega) (by omega) HS8.out).mono ?_; rintro e w8 ⟨r, rfl, hr8, hb8⟩; have HP8 := Aside0.mk (HP7.out.then_ hb8)) | ((with_reducible refine gate_builtin (b := .copy) (xs := #[.tmp 63, .tmp 64]) rfl ?_); refine wpList_copy_bin rfl (.tmp 63) (.tmp 64) rfl g 148 364 364 r (octField (sumS L6) 8) _ rfl rfl hr8 (by rw [hol]; decide) (by rw [hol]; decide) HP8.out.row (by rw [HP8.out.len]; decide) ?_; intro w9 hr9 ho9))
      go_ret
      have hP9 := HP8.out.only 148 hr9 ho9 (by rw [hol]; decide)
      exact ⟨g, rfl, hgl.out, by unfold hdS headS; rw [← HL6.out]; exact hP9.row, hP9.below⟩
end Go.Proofs.YtkmcbpkciakmeaaGreatDoor.PA

/- strconv.FormatUint at base 10 answers the decimal digits of every number; new blocks alone. -/
set_option linter.unusedVariables false
set_option linter.unusedSimpArgs false
namespace Go.Proofs.YtkmcbpkciakmeaaGreatDoor.PA
open Go.Sort Go.Lib Go.Shelf Go.RowKit Go.Proofs.YtkmcbpkciakmeaaGreatDoorW.PrintWords Go.Proofs.YtkmcbpkciakmeaaGreatDoorW.PrintLast Go.Proofs.YtkmcbpkciakmeaaGreatDoorW.PrintMore

theorem alen155 : Tryz.prog.arrayLen 155 = 24 := by kernel_rfl
theorem elem155 : Tryz.prog.elem 155 = 5 := by kernel_rfl
set_option maxHeartbeats 1000000 in
set_option maxRecDepth 100000 in
theorem formatUint_inner (u : Nat) (hu : u < 18446744073709551616) (w : World) (hT : Tabs w) :
    Calls Tryz.prog 111 #[.int .u64 u, .int .i64 10] w fun e w' => e = .returned (.string (str (decDigits u))) ∧ Below w.heap.size w w' := by
  by_cases hs : u < 100
  · go_enter Tryz.func111, Tryz.ntmps111
    go_wp2_with (first | (go_at_call 135; refine (Tryz.internal_strconv_small u hs _).mono ?_; rintro e w' ⟨rfl, rfl⟩))
    go_ret
    exact ⟨rfl, Below.refl _ _⟩
  · have hu1 : 1 ≤ u := by omega
    have hnd20 : nDigits u ≤ 20 := by have := numDigits_eq u hu1 hu; split at this <;> omega
    have hsl1 : ∀ W, (Instr.sliceAt 155 (.pointer (some ⟨w.heap.size, 0, none⟩)) none (some (.int .i64 (nDigits u : Int))) none).run Tryz.prog W = .ok (.slice (some ⟨w.heap.size, 0, none⟩) (nDigits u) 24) W := fun W => by
      rw [run_sliceAt_array_h W 155 ⟨w.heap.size, 0, none⟩ (by kernel_rfl) .i64 (nDigits u : Int) (by omega) (by rw [alen155]; omega)]
      rw [show (sizeOf (Tryz.prog.elem 155)).run Tryz.prog W = .ok 1 W from by rw [elem155]; exact size5' W]
      simp only [Result.andThen_ok, alen155, slicedAt, Int.toNat_natCast, Nat.mul_one]
      rw [if_neg (by omega), Lib.add_plain, Nat.sub_zero, Nat.sub_zero]
    have hH0 : Holds (fun (b : UInt8) => Value.int .u8 (b.toNat : Int)) (w.alloc (.cells Lib.zeros24 155)) w.heap.size 0 (Array.replicate (nDigits u) 0) := fun j hj => by
      have hj' : j < nDigits u := by simpa using hj
      refine ⟨?_, World.frozen?_alloc_new _ _ _ _⟩
      rw [World.cell?_alloc_new, zeros24_at _ (by omega), getElem!_pos _ j hj]
      simp
    have hfmt := Tryz.internal_strconv_formatBase10 w.heap.size 0 24 u (Array.replicate (nDigits u) 0) (w.alloc (.cells Lib.zeros24 155)) hH0 (by rw [Array.size_replicate]; exact lt_pow_nDigits u) hu (by rw [Array.size_replicate]; omega)
    rw [Array.size_replicate] at hfmt
    have HH0 := Aside0.mk hH0
    have HF := Aside0.mk hfmt
    have HD := Aside0.mk (Tryz.internal_strconv_numDigits u hu1 hu (w.alloc (.cells Lib.zeros24 155)) (hT.alloc _).pow)
    clear hH0 hfmt
    go_enter Tryz.func111, Tryz.ntmps111
    go_wp2_with (first | (go_at_call 136; refine HD.out.mono ?_; rintro e w' ⟨rfl, rfl⟩))
    go_at_call 137
    refine HF.out.mono ?_
    rintro e w' ⟨rfl, k, v', dk, rfl, hF⟩
    have hcv : (convert 25 9 (.slice (some ⟨w.heap.size, 0, none⟩) (nDigits u) 24)).run Tryz.prog ((putRow (fun (b : UInt8) => Value.int .u8 (b.toNat : Int)) (w.alloc (.cells Lib.zeros24 155)) w.heap.size 0 dk).drewN k) = .ok (.string ⟨(decDigits u).toArray⟩) ((putRow (fun (b : UInt8) => Value.int .u8 (b.toNat : Int)) (w.alloc (.cells Lib.zeros24 155)) w.heap.size 0 dk).drewN k) := by
      have h := run_convert_bytes_back (P := Tryz.prog) ((putRow (fun (b : UInt8) => Value.int .u8 (b.toNat : Int)) (w.alloc (.cells Lib.zeros24 155)) w.heap.size 0 dk).drewN k) 25 9 5 ⟨w.heap.size, 0, none⟩ 24 (decDigits u) Tryz.underlying25 Tryz.underlying5 Tryz.underlying9 (fun j hj => by
        rw [row_is_numeral hF j hj, Lib.add_plain, World.cell?_drewN]
        exact cell?_putRow (fun (b : UInt8) => Value.int .u8 (b.toNat : Int)) _ w.heap.size 0 _ dk HH0.out (by rw [hF.size, Array.size_replicate]) j (by rw [hF.size]; rw [decDigits_length] at hj; exact hj))
      rw [decDigits_length] at h
      exact h
    have hk : Below w.heap.size w ((putRow (fun (b : UInt8) => Value.int .u8 (b.toNat : Int)) (w.alloc (.cells Lib.zeros24 155)) w.heap.size 0 dk).drewN k) := by
      refine pw_below_drewN ?_ k
      have e : w.alloc (.cells Lib.zeros24 155) = grow w #[.cells Lib.zeros24 155] := by simp [grow, World.alloc, -World.alloc_eq]
      rw [e]
      obtain ⟨os', _, h2⟩ := putRow_grow_new (fun (b : UInt8) => Value.int .u8 (b.toNat : Int)) w #[.cells Lib.zeros24 155] w.heap.size 0 dk (Nat.le_refl _)
      rw [h2]
      have := below_grow (w := w) 0 os'
      rwa [World.drewN_zero] at this
    go_wp2
    go_ret
    exact ⟨rfl, hk⟩
theorem formatUint_calls (u : Nat) (hu : u < 18446744073709551616) (w : World) (hT : Tabs w) :
    Calls Tryz.prog 77 #[.int .u64 u, .int .i64 10] w fun e w' => e = .returned (.string (str (decDigits u))) ∧ Below w.heap.size w w' := by
  have H := Aside0.mk (formatUint_inner u hu w hT)
  go_enter Tryz.func77, Tryz.ntmps77
  go_wp2_with (first | (go_at_call 111; refine H.out.mono ?_; rintro e w' ⟨rfl, hb⟩))
  go_ret
  exact ⟨rfl, hb⟩
end Go.Proofs.YtkmcbpkciakmeaaGreatDoor.PA

/- fields.PutSeconds answers the seconds of every time as a text; new blocks alone. -/
set_option linter.unusedVariables false
set_option linter.unusedSimpArgs false
namespace Go.Proofs.YtkmcbpkciakmeaaGreatDoor.PA
open Go.RowKit Go.Proofs.YtkmcbpkciakmeaaGreatDoorW.PrintWords Go.Proofs.YtkmcbpkciakmeaaGreatDoorW.PrintLast Go.Proofs.YtkmcbpkciakmeaaGreatDoorW.PrintMore

/-- The seconds of V nanoseconds. -/
def secS (V : Nat) : Bytes :=
  if V % 1000000000 = 0 then Lib.decDigits (V / 1000000000) else Lib.decDigits (V / 1000000000) ++ [46] ++ Lib.trimRightB ((Lib.decDigits (1000000000 + V % 1000000000)).drop 1) 48
def putSecS (t : Int) : Bytes := if t < 0 then 45 :: secS t.natAbs else secS t.natAbs

theorem trimRightB_le (l : Bytes) (c : UInt8) : (Lib.trimRightB l c).length ≤ l.length := by
  unfold Lib.trimRightB
  rw [List.length_reverse]
  have := (List.dropWhile_sublist (fun x => x == c) (l := l.reverse)).length_le
  simpa using this
theorem decDigits_le20 (u : Nat) (h : u < 18446744073709551616) : (Lib.decDigits u).length ≤ 20 := by
  rw [Lib.decDigits_length]
  by_cases h1 : 1 ≤ u
  · have := Lib.numDigits_eq u h1 h
    split at this <;> omega
  · rw [Lib.nDigits_small (by omega)]; omega
theorem str_extract1 (l : Bytes) : (str l).extract 1 (str l).size = str (l.drop 1) := by
  apply ByteArray.ext
  apply Array.ext'
  rw [Lib.extract_data]
  simp [str, ByteArray.size]
  exact List.take_of_length_le (by simp)


set_option maxHeartbeats 1000000 in
set_option maxRecDepth 100000 in
theorem putSeconds_neg (V : Nat) (h0 : 1 ≤ V) (h1 : V ≤ 9223372036854775808) (w : World) (hT : Tabs w) (D E F : ByteArray) (hDs : D.size ≤ 20) (hEs : E.size ≤ 20) (hE1 : 1 ≤ E.size) (hFs : F.size ≤ 20)
    (h2 : ∀ W, Tabs W → Calls Tryz.prog 77 #[.int .u64 ((V / 1000000000 : Nat) : Int), .int .i64 10] W fun e w' => e = .returned (.string D) ∧ Below W.heap.size W w')
    (h3 : ∀ W, Tabs W → Calls Tryz.prog 77 #[.int .u64 ((1000000000 + V % 1000000000 : Nat) : Int), .int .i64 10] W fun e w' => e = .returned (.string E) ∧ Below W.heap.size W w')
    (h4 : ∀ W, Calls Tryz.prog 78 #[.string (E.extract 1 E.size), .string ⟨#[48]⟩] W fun e w' => e = .returned (.string F) ∧ w' = W) :
    Calls Tryz.prog 45 #[.int .i64 (-(V : Int))] w fun e w' => e = .returned (.string (if V % 1000000000 = 0 then (⟨#[45]⟩ : ByteArray) ++ D else (⟨#[45]⟩ : ByteArray) ++ D ++ ⟨#[46]⟩ ++ F)) ∧ Below w.heap.size w w' := by
  have hwr : IntKind.u64.wrap (-IntKind.u64.wrap (-(V : Int))) = (V : Int) := by rw [IntKind.wrap_u64, IntKind.wrap_u64]; omega
  have H1 := Aside0.mk h2
  have H2 := Aside0.mk h3
  have H3 := Aside0.mk h4
  clear h2 h3 h4
  have hq1 : (⟨#[45]⟩ : ByteArray).size + D.size ≤ 9223372036854775807 := by show 1 + D.size ≤ _; omega
  have hq2 : ((⟨#[45]⟩ : ByteArray) ++ D).size + 1 ≤ 9223372036854775807 := by rw [ByteArray.size_append]; show 1 + D.size + 1 ≤ _; omega
  have hq3 : ((⟨#[45]⟩ : ByteArray) ++ D ++ ⟨#[46]⟩).size + F.size ≤ 9223372036854775807 := by rw [ByteArray.size_append, ByteArray.size_append]; show 1 + D.size + 1 + F.size ≤ _; omega
  by_cases hz : V % 1000000000 = 0
  · rw [if_pos hz]
    have t1 : ((V : Int) % 1000000000 == 0) = true := by rw [beq_iff_eq]; omega
    clear hz
    go_enter Tryz.func45, Tryz.ntmps45
    go_wp2_with (first | (go_at_call 77; rw [show ((V : Int) / 1000000000) = ((V / 1000000000 : Nat) : Int) from by omega]; refine (H1.out _ hT).mono ?_; rintro e w1 ⟨rfl, hb⟩))
    go_ret
    exact ⟨by first | rfl | simp, hb⟩
  · rw [if_neg hz]
    have t1 : ((V : Int) % 1000000000 == 0) = false := by rw [beq_eq_false_iff_ne]; omega
    clear hz
    go_enter Tryz.func45, Tryz.ntmps45
    go_wp2_with (first | (go_at_call 78; refine (H3.out _).mono ?_; rintro e w3 ⟨rfl, rfl⟩) | (go_at_call 77; rw [show (1000000000 + (V : Int) % 1000000000) = ((1000000000 + V % 1000000000 : Nat) : Int) from by omega]; refine (H2.out _ (hT.below hb)).mono ?_; rintro e w2 ⟨rfl, hb2⟩) | (go_at_call 77; rw [show ((V : Int) / 1000000000) = ((V / 1000000000 : Nat) : Int) from by omega]; refine (H1.out _ hT).mono ?_; rintro e w1 ⟨rfl, hb⟩))
    go_ret
    exact ⟨by first | rfl | simp, below_then hb hb.size hb2⟩

set_option maxHeartbeats 1000000 in
set_option maxRecDepth 100000 in
theorem putSeconds_pos (V : Nat) (h1 : V ≤ 9223372036854775807) (w : World) (hT : Tabs w) (D E F : ByteArray) (hDs : D.size ≤ 20) (hEs : E.size ≤ 20) (hE1 : 1 ≤ E.size) (hFs : F.size ≤ 20)
    (h2 : ∀ W, Tabs W → Calls Tryz.prog 77 #[.int .u64 ((V / 1000000000 : Nat) : Int), .int .i64 10] W fun e w' => e = .returned (.string D) ∧ Below W.heap.size W w')
    (h3 : ∀ W, Tabs W → Calls Tryz.prog 77 #[.int .u64 ((1000000000 + V % 1000000000 : Nat) : Int), .int .i64 10] W fun e w' => e = .returned (.string E) ∧ Below W.heap.size W w')
    (h4 : ∀ W, Calls Tryz.prog 78 #[.string (E.extract 1 E.size), .string ⟨#[48]⟩] W fun e w' => e = .returned (.string F) ∧ w' = W) :
    Calls Tryz.prog 45 #[.int .i64 ((V : Int))] w fun e w' => e = .returned (.string (if V % 1000000000 = 0 then (⟨#[]⟩ : ByteArray) ++ D else (⟨#[]⟩ : ByteArray) ++ D ++ ⟨#[46]⟩ ++ F)) ∧ Below w.heap.size w w' := by
  have H1 := Aside0.mk h2
  have H2 := Aside0.mk h3
  have H3 := Aside0.mk h4
  clear h2 h3 h4
  have hq1 : (⟨#[]⟩ : ByteArray).size + D.size ≤ 9223372036854775807 := by show 0 + D.size ≤ _; omega
  have hq2 : ((⟨#[]⟩ : ByteArray) ++ D).size + 1 ≤ 9223372036854775807 := by rw [ByteArray.size_append]; show 0 + D.size + 1 ≤ _; omega
  have hq3 : ((⟨#[]⟩ : ByteArray) ++ D ++ ⟨#[46]⟩).size + F.size ≤ 9223372036854775807 := by rw [ByteArray.size_append, ByteArray.size_append]; show 0 + D.size + 1 + F.size ≤ _; omega
  by_cases hz : V % 1000000000 = 0
  · rw [if_pos hz]
    have t1 : ((V : Int) % 1000000000 == 0) = true := by rw [beq_iff_eq]; omega
    clear hz
    go_enter Tryz.func45, Tryz.ntmps45
    go_wp2_with (first | (go_at_call 77; rw [show ((V : Int) / 1000000000) = ((V / 1000000000 : Nat) : Int) from by omega]; refine (H1.out _ hT).mono ?_; rintro e w1 ⟨rfl, hb⟩))
    go_ret
    exact ⟨by first | rfl | simp, hb⟩
  · rw [if_neg hz]
    have t1 : ((V : Int) % 1000000000 == 0) = false := by rw [beq_eq_false_iff_ne]; omega
    clear hz
    go_enter Tryz.func45, Tryz.ntmps45
    go_wp2_with (first | (go_at_call 78; refine (H3.out _).mono ?_; rintro e w3 ⟨rfl, rfl⟩) | (go_at_call 77; rw [show (1000000000 + (V : Int) % 1000000000) = ((1000000000 + V % 1000000000 : Nat) : Int) from by omega]; refine (H2.out _ (hT.below hb)).mono ?_; rintro e w2 ⟨rfl, hb2⟩) | (go_at_call 77; rw [show ((V : Int) / 1000000000) = ((V / 1000000000 : Nat) : Int) from by omega]; refine (H1.out _ hT).mono ?_; rintro e w1 ⟨rfl, hb⟩))
    go_ret
    exact ⟨by first | rfl | simp, below_then hb hb.size hb2⟩

theorem putSeconds_calls (t : Int) (w : World) (hT : Tabs w) (h0 : -9223372036854775808 ≤ t) (h1 : t ≤ 9223372036854775807) :
    Calls Tryz.prog 45 #[.int .i64 t] w fun e w' => e = .returned (.string (str (putSecS t))) ∧ Below w.heap.size w w' := by
  have e20 := decDigits_le20 (1000000000 + t.natAbs % 1000000000) (by omega)
  have e1 : 1 ≤ (Lib.decDigits (1000000000 + t.natAbs % 1000000000)).length := by
    rw [Lib.decDigits_length, Lib.nDigits]; split <;> omega
  have d20 := decDigits_le20 (t.natAbs / 1000000000) (by omega)
  have f20 := trimRightB_le ((Lib.decDigits (1000000000 + t.natAbs % 1000000000)).drop 1) 48
  rw [List.length_drop] at f20
  have hd : Calls Tryz.prog 45 #[.int .i64 t] w fun e w' => e = .returned (.string (if t.natAbs % 1000000000 = 0 then (str (if t < 0 then [45] else [])) ++ str (Lib.decDigits (t.natAbs / 1000000000)) else (str (if t < 0 then [45] else [])) ++ str (Lib.decDigits (t.natAbs / 1000000000)) ++ str [46] ++ str (Lib.trimRightB ((Lib.decDigits (1000000000 + t.natAbs % 1000000000)).drop 1) 48))) ∧ Below w.heap.size w w' := by
    by_cases hn : t < 0
    · rw [if_pos hn]
      obtain ⟨V, rfl⟩ : ∃ V : Nat, t = -(V : Int) := ⟨t.natAbs, by omega⟩
      rw [Int.natAbs_neg, Int.natAbs_natCast] at *
      exact putSeconds_neg V (by omega) (by omega) w hT _ _ _ (by rw [str_size]; exact d20) (by rw [str_size]; exact e20) (by rw [str_size]; exact e1) (by rw [str_size]; omega)
        (fun W hW => formatUint_calls _ (by omega) W hW) (fun W hW => formatUint_calls _ (by omega) W hW)
        (fun W => by rw [str_extract1]; exact Tryz.strings_TrimRight_one (str ((Lib.decDigits (1000000000 + V % 1000000000)).drop 1)) 48 (by decide) W (by rw [str_size, List.length_drop]; omega))
    · rw [if_neg hn]
      obtain ⟨V, rfl⟩ : ∃ V : Nat, t = (V : Int) := ⟨t.natAbs, by omega⟩
      rw [Int.natAbs_natCast] at *
      exact putSeconds_pos V (by omega) w hT _ _ _ (by rw [str_size]; exact d20) (by rw [str_size]; exact e20) (by rw [str_size]; exact e1) (by rw [str_size]; omega)
        (fun W hW => formatUint_calls _ (by omega) W hW) (fun W hW => formatUint_calls _ (by omega) W hW)
        (fun W => by rw [str_extract1]; exact Tryz.strings_TrimRight_one (str ((Lib.decDigits (1000000000 + V % 1000000000)).drop 1)) 48 (by decide) W (by rw [str_size, List.length_drop]; omega))
  refine hd.mono fun e w' ⟨he, hb⟩ => ⟨?_, hb⟩
  rw [he]
  unfold putSecS secS
  by_cases hz : t.natAbs % 1000000000 = 0 <;> by_cases hn : t < 0 <;> simp [hz, hn, str_append]
end Go.Proofs.YtkmcbpkciakmeaaGreatDoor.PA

/- Plain laws on texts: cutting at a byte, decimal digits. No program in sight. Holds of all lists. -/
set_option linter.unusedVariables false
set_option linter.unusedSimpArgs false
namespace Go.Proofs.YtkmcbpkciakmeaaGreatDoor.PA
open Go.RowKit

/-- What stands ahead of the first c, what behind it, and whether there is one. -/
def cut1 : Bytes → UInt8 → Bytes × Bytes × Bool
  | [], _ => ([], [], false)
  | b :: l, c => if b = c then ([], l, true) else (b :: (cut1 l c).1, (cut1 l c).2.1, (cut1 l c).2.2)
theorem index_cons_one (b c : UInt8) (l : Bytes) : Lib.index (b :: l) [c] = if b = c then 0 else if Lib.index l [c] = -1 then -1 else Lib.index l [c] + 1 := by
  rw [Lib.index]
  by_cases h : b = c
  · subst h; simp
  · have h1 : ([c] : Bytes).isPrefixOf (b :: l) = false := by simp [List.isPrefixOf]; exact fun e => h e.symm
    simp [h1, h]
theorem lib_cut : ∀ (l : Bytes) (c : UInt8), Lib.cut l [c] = cut1 l c
  | [], c => by simp [Lib.cut, Lib.index, cut1]
  | b :: l, c => by
    have ih := lib_cut l c
    have hge := Lib.index_ge l [c]
    rw [Lib.cut] at ih ⊢
    rw [index_cons_one]
    simp only [cut1]
    by_cases h : b = c
    · simp [h]
    · rw [if_neg h, if_neg h, ← ih]
      by_cases h2 : Lib.index l [c] = -1
      · simp [h2]
      · rw [if_neg h2, if_pos (by omega), if_pos (by omega)]
        obtain ⟨i, hi⟩ : ∃ i : Nat, Lib.index l [c] = i := ⟨(Lib.index l [c]).toNat, by omega⟩
        rw [hi]
        have : ((i : Int) + 1).toNat = i + 1 := by omega
        simp [this, Nat.add_right_comm]
theorem cut1_none {l : Bytes} {c : UInt8} (h : ∀ b ∈ l, b ≠ c) : cut1 l c = (l, [], false) := by
  induction l with
  | nil => rfl
  | cons b r ih =>
    simp only [cut1]
    rw [if_neg (h b (by simp)), ih (fun x hx => h x (by simp [hx]))]
theorem cut1_at {a r : Bytes} {c : UInt8} (h : ∀ b ∈ a, b ≠ c) : cut1 (a ++ c :: r) c = (a, r, true) := by
  induction a with
  | nil => simp [cut1]
  | cons b a ih =>
    simp only [List.cons_append, cut1]
    rw [if_neg (h b (by simp)), ih (fun x hx => h x (by simp [hx]))]

theorem first_cases (l : Bytes) (c : UInt8) : (∀ b ∈ l, b ≠ c) ∨ ∃ a r, l = a ++ c :: r ∧ ∀ b ∈ a, b ≠ c := by
  induction l with
  | nil => exact .inl (by simp)
  | cons b l ih =>
    by_cases h : b = c
    · subst h; exact .inr ⟨[], l, rfl, by simp⟩
    · rcases ih with ih | ⟨a, r, rfl, ha⟩
      · exact .inl (fun x hx => by rcases List.mem_cons.1 hx with rfl | hx; exact h; exact ih x hx)
      · exact .inr ⟨b :: a, r, rfl, fun x hx => by rcases List.mem_cons.1 hx with rfl | hx; exact h; exact ha x hx⟩
theorem index_none1 {l : Bytes} {c : UInt8} (h : ∀ b ∈ l, b ≠ c) : Lib.index l [c] = -1 := by
  induction l with
  | nil => rfl
  | cons b r ih => rw [index_cons_one, if_neg (h b (by simp)), ih (fun x hx => h x (by simp [hx])), if_pos rfl]
theorem index_at1 {a r : Bytes} {c : UInt8} (h : ∀ b ∈ a, b ≠ c) : Lib.index (a ++ c :: r) [c] = a.length := by
  induction a with
  | nil => rw [List.nil_append, index_cons_one, if_pos rfl]; rfl
  | cons b a ih =>
    rw [List.cons_append, index_cons_one, if_neg (h b (by simp)), ih (fun x hx => h x (by simp [hx])), if_neg (by omega)]
    simp
/-- The parts between a byte. -/
def split1 : Bytes → UInt8 → List Bytes
  | [], _ => [[]]
  | b :: l, c => if b = c then [] :: split1 l c else match split1 l c with
    | [] => [[b]]
    | h :: t => (b :: h) :: t
theorem split1_none {l : Bytes} {c : UInt8} (h : ∀ b ∈ l, b ≠ c) : split1 l c = [l] := by
  induction l with
  | nil => rfl
  | cons b r ih => simp only [split1]; rw [if_neg (h b (by simp)), ih (fun x hx => h x (by simp [hx]))]
theorem split1_at {a r : Bytes} {c : UInt8} (h : ∀ b ∈ a, b ≠ c) : split1 (a ++ c :: r) c = a :: split1 r c := by
  induction a with
  | nil => simp [split1]
  | cons b a ih => simp only [List.cons_append, split1]; rw [if_neg (h b (by simp)), ih (fun x hx => h x (by simp [hx]))]
theorem lib_split (c : UInt8) : ∀ (n : Nat) (l : Bytes), l.length ≤ n → Lib.split l [c] = split1 l c := by
  intro n
  induction n with
  | zero => intro l h; obtain rfl : l = [] := List.eq_nil_of_length_eq_zero (by omega); rfl
  | succ n ih =>
    intro l h
    unfold Lib.split
    rcases first_cases l c with hn | ⟨a, r, rfl, ha⟩
    · rw [split1_none hn, Lib.count_miss (index_none1 hn)]; rfl
    · have hi := index_at1 (r := r) ha
      rw [split1_at ha, Lib.count_hit (by simp) hi, Nat.add_comm, Lib.splitK, hi]
      have e1 : (((a.length : Nat) : Int) == -1) = false := by rw [beq_eq_false_iff_ne]; omega
      rw [e1, if_neg (by decide)]
      have e2 : (a ++ c :: r).drop (a.length + 1) = r := by rw [List.drop_append]; simp
      simp only [Int.toNat_natCast, List.length_singleton, Nat.add_zero, List.take_left', e2]
      have := ih r (by simp at h; omega)
      unfold Lib.split at this
      rw [this]
theorem split1_length (l : Bytes) (c : UInt8) : (split1 l c).length ≤ l.length + 1 := by
  induction l with
  | nil => simp [split1]
  | cons b l ih =>
    simp only [split1]
    split
    · simp; omega
    · split
      · simp
      · rename_i h t e; rw [e] at ih; simp at ih ⊢; omega
theorem count_split (l : Bytes) (c : UInt8) : (split1 l c).length = Lib.count l [c] + 1 := by
  have : ∀ (n : Nat) (l : Bytes), l.length ≤ n → (split1 l c).length = Lib.count l [c] + 1 := by
    intro n
    induction n with
    | zero => intro l h; obtain rfl : l = [] := List.eq_nil_of_length_eq_zero (by omega); rfl
    | succ n ih =>
      intro l h
      rcases first_cases l c with hn | ⟨a, r, rfl, ha⟩
      · rw [split1_none hn, Lib.count_miss (index_none1 hn)]; rfl
      · rw [split1_at ha, Lib.count_hit (by simp) (index_at1 (r := r) ha)]
        have e2 : (a ++ c :: r).drop (a.length + [c].length) = r := by rw [List.drop_append]; simp
        rw [e2, List.length_cons, ih r (by simp at h; omega)]
        omega
  exact this l.length l (Nat.le_refl _)

def tot (xs : List Bytes) : Nat := (xs.map (fun x => x.length + 1)).sum
theorem tot_cons (x : Bytes) (xs : List Bytes) : tot (x :: xs) = x.length + 1 + tot xs := by simp [tot]
theorem tot_split (l : Bytes) (c : UInt8) : tot (split1 l c) = l.length + 1 := by
  induction l with
  | nil => rfl
  | cons b l ih =>
    simp only [split1]
    split
    · rw [tot_cons, ih]; simp; omega
    · split
      · rename_i e; rw [e] at ih; simp [tot] at ih
      · rename_i h t e; rw [e, tot_cons] at ih; rw [tot_cons]; simp at ih ⊢; omega
theorem tot_filter (p : Bytes → Bool) (xs : List Bytes) : tot (xs.filter p) ≤ tot xs := by
  induction xs with
  | nil => simp
  | cons x xs ih => rw [List.filter_cons]; split <;> simp only [tot_cons] <;> omega
theorem join_cons_le (sep : UInt8) : ∀ (xs : List Bytes), (Lib.join xs [sep]).length ≤ tot xs
  | [] => by simp [Lib.join]
  | [x] => by simp [Lib.join, tot]
  | x :: y :: r => by
    have ih := join_cons_le sep (y :: r)
    have e : Lib.join (x :: y :: r) [sep] = x ++ ([sep] ++ Lib.join (y :: r) [sep]) := by simp [Lib.join, List.intercalate, List.intersperse]
    rw [e, tot_cons]
    simp only [List.length_append, List.length_singleton]
    omega

/-! Decimal digits -/
theorem dec_lt {v : Nat} (h : v < 10) : Lib.decDigits v = [UInt8.ofNat (48 + v)] := by rw [Lib.decDigits, dif_pos h]
theorem dec_ge {v : Nat} (h : 10 ≤ v) : Lib.decDigits v = Lib.decDigits (v / 10) ++ [UInt8.ofNat (48 + v % 10)] := by rw [Lib.decDigits, dif_neg (by omega)]
theorem dig_byte {d : Nat} (h : d < 10) : (UInt8.ofNat (48 + d)).toNat = 48 + d := by simp; omega
theorem dec_digs (v : Nat) : ∀ c ∈ Lib.decDigits v, isDig 10 c := by
  induction v using Nat.strongRecOn with
  | _ v ih =>
    intro c hc
    by_cases h : v < 10
    · rw [dec_lt h] at hc
      simp only [List.mem_singleton] at hc
      subst hc
      have := dig_byte h
      unfold isDig; rw [this]; omega
    · rw [dec_ge (by omega)] at hc
      rcases List.mem_append.1 hc with hc | hc
      · exact ih (v / 10) (by omega) c hc
      · simp only [List.mem_singleton] at hc
        subst hc
        have := dig_byte (show v % 10 < 10 by omega)
        unfold isDig; rw [this]; omega
theorem dec_ne (v : Nat) (x : UInt8) (hx : ¬ isDig 10 x) : ∀ c ∈ Lib.decDigits v, c ≠ x := fun c hc e => hx (e ▸ dec_digs v c hc)
theorem digs_one (v d m : Int) (hv : 0 ≤ v) (c : UInt8) (hc : (c.toNat : Int) = 48 + d) (hd : 0 ≤ d) (hd' : d < 10) (h : v * 10 + d ≤ 4611686018427387904) : digs 10 [c] v m = (v * 10 + d, m + 1) := by
  simp only [digs]
  rw [if_pos (by omega)]
  have : (c.toNat : Int) - 48 = d := by omega
  rw [this]
  unfold addB
  rw [if_neg (by omega)]
theorem digs_dec (v : Nat) (hv : v ≤ 4611686018427387904) : ∀ m, (digs 10 (Lib.decDigits v) 0 m).1 = v := by
  induction v using Nat.strongRecOn with
  | _ v ih =>
    intro m
    by_cases h : v < 10
    · rw [dec_lt h, digs_one 0 v m (by omega) _ (by rw [dig_byte h]; omega) (by omega) (by omega) (by omega)]
      simp
    · rw [dec_ge (by omega), digs_append 10 _ _ _ _ (dec_digs _), ih (v / 10) (by omega) (by omega), digs_one _ ((v % 10 : Nat) : Int) _ (by omega) _ (by rw [dig_byte (by omega)]; omega) (by omega) (by omega) (by omega)]
      simp only
      omega
theorem digs_dec_all (v : Nat) (hv : v ≤ 4611686018427387904) : digs 10 (Lib.decDigits v) 0 0 = ((v : Int), ((Lib.decDigits v).length : Int)) := by
  have h1 := digs_dec v hv 0
  have h2 := digs_all 10 (Lib.decDigits v) 0 0 (dec_digs v)
  rw [Int.zero_add] at h2
  exact Prod.ext h1 h2
/-- 10^9 + r, r below 10^9: a 1, and r in nine digits. -/
theorem dec_pad (n r : Nat) (h : r < 10 ^ n) : ∃ l : Bytes, Lib.decDigits (10 ^ n + r) = 49 :: l ∧ l.length = n ∧ ∀ v : Int, 0 ≤ v → v * 10 ^ n + r ≤ 4611686018427387904 → ∀ m, (digs 10 l v m).1 = v * 10 ^ n + r := by
  induction n generalizing r with
  | zero => exact ⟨[], by simp at h; subst h; simp [dec_lt], rfl, fun v _ _ m => by simp at h; subst h; simp [digs]⟩
  | succ n ih =>
    have h10 : (10 : Nat) ^ (n + 1) = 10 ^ n * 10 := Nat.pow_succ 10 n
    have hp : 1 ≤ 10 ^ n := Nat.one_le_pow _ _ (by omega)
    obtain ⟨l, h1, h2, h3⟩ := ih (r / 10) (by omega)
    have e1 : (10 ^ (n + 1) + r) / 10 = 10 ^ n + r / 10 := by omega
    have e2 : (10 ^ (n + 1) + r) % 10 = r % 10 := by omega
    refine ⟨l ++ [UInt8.ofNat (48 + r % 10)], ?_, by simp [h2], fun v hv hle m => ?_⟩
    · rw [dec_ge (by omega), e1, e2, h1]; rfl
    · have hall : ∀ c ∈ l, isDig 10 c := fun c hc => dec_digs (10 ^ n + r / 10) c (by rw [h1]; simp [hc])
      have hpi : ((10 : Int) ^ (n + 1)) = 10 ^ n * 10 := Int.pow_succ 10 n
      rw [hpi] at hle ⊢
      have hm : v * (10 ^ n * 10) = v * 10 ^ n * 10 := by rw [Int.mul_assoc]
      rw [hm] at hle ⊢
      have hnn : 0 ≤ v * 10 ^ n := Int.mul_nonneg hv (by exact_mod_cast Nat.zero_le _)
      rw [digs_append 10 _ _ _ _ hall, h3 v hv (by omega) m, digs_one _ ((r % 10 : Nat) : Int) _ (by omega) _ (by rw [dig_byte (by omega)]; omega) (by omega) (by omega) (by omega)]
      simp only
      omega

theorem trimRightB_split (l : Bytes) (c : UInt8) : ∃ k, l = Lib.trimRightB l c ++ List.replicate k c := by
  unfold Lib.trimRightB
  have h := List.takeWhile_append_dropWhile (p := fun x => x == c) (l := l.reverse)
  refine ⟨(l.reverse.takeWhile fun x => x == c).length, ?_⟩
  have hr : (l.reverse.takeWhile fun x => x == c) = List.replicate (l.reverse.takeWhile fun x => x == c).length c := by
    apply List.eq_replicate_iff.2
    refine ⟨rfl, fun b hb => ?_⟩
    have ha := List.all_takeWhile (p := fun x => x == c) (l := l.reverse)
    have := List.all_eq_true.1 ha b hb
    simpa using this
  have := congrArg List.reverse h
  rw [List.reverse_append, List.reverse_reverse] at this
  conv => lhs; rw [← this]
  rw [hr]
  simp
end Go.Proofs.YtkmcbpkciakmeaaGreatDoor.PA
