/- An entry is written. -/
import Derived.Test.YtkmcbpkciakmeaaGreatDoorMheads
import Derived.Test.YtkmcbpkciakmeaaGreatDoorMnames
import Derived.Deep.DeepCutAuto
import Derived.Deep.CutBlock
import Derived.Deep.RegionLaw

/- tarfmt.written: what an entry is in an archive, and what its walk keeps. -/
set_option linter.unusedVariables false
set_option linter.unusedSimpArgs false
namespace Go.Proofs.YtkmcbpkciakmeaaGreatDoor.PA
open Go.RowKit Go.Proofs.YtkmcbpkciakmeaaGreatDoorW.PrintWords Go.Proofs.YtkmcbpkciakmeaaGreatDoorW.PrintLast Go.Proofs.YtkmcbpkciakmeaaGreatDoorW.PrintMore

def bPath : Bytes := [112, 97, 116, 104]
def bLink : Bytes := [108, 105, 110, 107, 112, 97, 116, 104]
def bTime : Bytes := [109, 116, 105, 109, 101]
def bPax : Bytes := [112, 97, 120]
def kindB (k : Int) : UInt8 := if k = 2 then 53 else if k = 3 then 50 else 48
/-- Can a header's field say the time? -/
def easy (t : Int) : Bool := decide (t % 1000000000 = 0) && decide (0 ≤ t) && decide (t / 1000000000 < 8589934592)
def secsOf (t : Int) : Nat := if easy t then (t / 1000000000).toNat else 0
def recs1 (x : S44) : List KV := if 100 < x.f1.size then [(str bPath, x.f1)] else []
def recs2 (x : S44) : List KV := if 100 < x.f2.size then recs1 x ++ [(str bLink, x.f2)] else recs1 x
def recs3 (x : S44) : List KV := if easy x.f4 then recs2 x else recs2 x ++ [(str bTime, str (putSecS x.f4))]
def hdP (n : Nat) : Hd := ⟨str bPax, ⟨#[]⟩, 420, n, 0, 120⟩
def hdX (x : S44) (t : Nat) : Hd := ⟨x.f1, x.f2, x.f3.toNat, x.f5.size, t, kindB x.f0⟩
def paxS (x : S44) : Bytes := if recs3 x = [] then [] else hdS (hdP (recsS (recs3 x)).length) ++ fillS (recsS (recs3 x))
def writtenS (x : S44) : Bytes := paxS x ++ hdS (hdX x (secsOf x.f4)) ++ fillS x.f5.data.toList

/-- What the walk keeps: the entry's box, the header's box. -/
structure WrAt (w : World) (x : S44) (h : Hd) (W : World) : Prop where
  below : Below w.heap.size w W
  size : w.heap.size + 2 ≤ W.heap.size
  x1 : W.cell? ⟨w.heap.size, 1, none⟩ = some (.string x.f1)
  x2 : W.cell? ⟨w.heap.size, 2, none⟩ = some (.string x.f2)
  x4 : W.cell? ⟨w.heap.size, 4, none⟩ = some (.int .i64 x.f4)
  x5 : W.cell? ⟨w.heap.size, 5, none⟩ = some (.string x.f5)
  hb : W.heap[w.heap.size + 1]? = some (.cells #[.string h.name, .string h.link, .int .i64 h.mode, .int .i64 h.size, .int .i64 h.time, .int .u8 h.kind.toNat] 80 (0, 0))
theorem WrAt.kept {w : World} {x : S44} {h : Hd} {W W' : World} (p : WrAt w x h W) (hb : Below w.heap.size w W') (hs : w.heap.size + 2 ≤ W'.heap.size) (hk : ∀ k, k < w.heap.size + 2 → W'.heap[k]? = W.heap[k]?) : WrAt w x h W' := by
  have hc : ∀ j, W'.cell? ⟨w.heap.size, j, none⟩ = W.cell? ⟨w.heap.size, j, none⟩ := fun j => World.cell?_of_block (hk _ (by simp))
  exact ⟨hb, hs, (hc 1).trans p.x1, (hc 2).trans p.x2, (hc 4).trans p.x4, (hc 5).trans p.x5, (hk _ (by omega)).trans p.hb⟩
theorem WrAt.then_ {w : World} {x : S44} {h : Hd} {W W' : World} (hb : Below W.heap.size W W') (p : Aside0 (WrAt w x h W)) : Aside0 (WrAt w x h W') :=
  ⟨p.out.kept (below_then p.out.below p.out.below.size hb) (Nat.le_trans p.out.size hb.size) fun k hk => hb.block k (Nat.lt_of_lt_of_le hk p.out.size)⟩
theorem WrAt.base {w : World} {x : S44} {h : Hd} {W W' : World} (hb : Below (w.heap.size + 2) W W') (p : Aside0 (WrAt w x h W)) : Aside0 (WrAt w x h W') :=
  ⟨p.out.kept (p.out.below.trans (hb.mono (by omega))) (Nat.le_trans p.out.size hb.size) fun k hk => hb.block k hk⟩
theorem WrAt.grown {w : World} {x : S44} {h : Hd} {W W' : World} {v : Value} {l : Bytes} (hv : Bin W (w.heap.size + 2) v l) (hg : W.grownBy W' v.ownBlock) (p : Aside0 (WrAt w x h W)) : Aside0 (WrAt w x h W') := by
  refine WrAt.base ?_ p
  have := (Below.refl (w.heap.size + 2) W).grown hg p.out.size fun k hk => hv.base k hk
  exact this
theorem nextBin {W W' : World} {B : Nat} {v : Value} {l : Bytes} (hb : Below W.heap.size W W') (h : Aside0 (Bin W B v l)) : Aside0 (Bin W' B v l) := ⟨h.out.below hb⟩
theorem nextRB {W W' : World} {v : Value} {l : Bytes} (hb : Below W.heap.size W W') (h : Aside0 (RB W v l)) : Aside0 (RB W' v l) := ⟨h.out.below hb⟩
/-- Bytes in a row that is not s's. -/
structure Away (W : World) (B : Nat) (s v : Value) (l : Bytes) : Prop where
  bin : Bin W B v l
  ne : ∀ k, v.ownBlock = some k → s.ownBlock ≠ some k
theorem nextAway {W W' : World} {B : Nat} {s v : Value} {l : Bytes} (hb : Below W.heap.size W W') (h : Aside0 (Away W B s v l)) : Aside0 (Away W' B s v l) := ⟨⟨h.out.bin.below hb, h.out.ne⟩⟩
theorem grownAway {W W' : World} {B : Nat} {s v : Value} {l : Bytes} (hg : W.grownBy W' s.ownBlock) (h : Aside0 (Away W B s v l)) : Aside0 (Bin W' B v l) := ⟨h.out.bin.grown hg fun k hk e => h.out.ne k hk e.symm⟩
theorem Bin.lt {w : World} {B : Nat} {v : Value} {l : Bytes} (h : Bin w B v l) : ∀ k, v.ownBlock = some k → k < w.heap.size := by
  rcases h with ⟨rfl, _⟩ | ⟨g, cap, rfl, h1, h2, _⟩
  · intro k hk; simp [Value.ownBlock] at hk
  · intro k hk
    have : g = k := by simpa [Value.ownBlock] using hk
    omega
/-- A new row is not the old one's. -/
theorem newAway {W W' : World} {B : Nat} {s v : Value} {l m : Bytes} (hs : Bin W B s m) (hv : Bin W' W.heap.size v l) (hB : B ≤ W.heap.size) : Aside0 (Away W' B s v l) :=
  ⟨⟨hv.lower hB, fun k hk e => by have h1 := hv.base k hk; have h2 := hs.lt k e; omega⟩⟩
end Go.Proofs.YtkmcbpkciakmeaaGreatDoor.PA

/- tarfmt.written: the walk; new blocks alone are written. -/
set_option linter.unusedVariables false
set_option linter.unusedSimpArgs false
namespace Go.Proofs.YtkmcbpkciakmeaaGreatDoor.PA
open Go.RowKit Go.Proofs.YtkmcbpkciakmeaaGreatDoorW.PrintWords Go.Proofs.YtkmcbpkciakmeaaGreatDoorW.PrintLast Go.Proofs.YtkmcbpkciakmeaaGreatDoorW.PrintMore

theorem WrAt.start (w : World) (x : S44) (h : Hd) : Aside0 (WrAt w x h ((w.alloc (Obj.cells #[.int .i64 x.f0, .string x.f1, .string x.f2, .int .i64 x.f3, .int .i64 x.f4, .string x.f5] 44)).alloc (Obj.cells #[.string h.name, .string h.link, .int .i64 h.mode, .int .i64 h.size, .int .i64 h.time, .int .u8 h.kind.toNat] 80))) := by
  have hs : ∀ O, w.heap.size + 1 = (w.alloc O).heap.size := fun O => by simp
  refine ⟨⟨below_alloc (below_alloc (Below.refl _ _) _) _, by simp, by simp, by simp, by simp, by simp, ?_⟩⟩
  rw [hs (Obj.cells #[.int .i64 x.f0, .string x.f1, .string x.f2, .int .i64 x.f3, .int .i64 x.f4, .string x.f5] 44)]
  exact heap_alloc_new _ _
theorem under34 : Tryz.prog.underlying 34 = some (.slice 39) := by kernel_rfl
theorem info39 : (Tryz.prog.info? 39).map (fun i => (i.zero, i.size, i.bytes)) = some (some (.agg #[.string ⟨#[]⟩, .string ⟨#[]⟩]), 2, 32) := by kernel_rfl
theorem putSecS_le (t : Int) (h0 : -9223372036854775808 ≤ t) (h1 : t ≤ 9223372036854775807) : (putSecS t).length ≤ 150 := by
  have key : ∀ V : Nat, V ≤ 9223372036854775808 → (secS V).length ≤ 100 := by
    intro V hV
    have e1 := decDigits_le20 (V / 1000000000) (by omega)
    have e2 := decDigits_le20 (1000000000 + V % 1000000000) (by omega)
    unfold secS
    split
    · omega
    · have e3 := trimRightB_le ((Lib.decDigits (1000000000 + V % 1000000000)).drop 1) 48
      rw [List.length_drop] at e3
      rw [List.length_append, List.length_append]
      simp only [List.length_cons, List.length_nil]
      omega
  have := key t.natAbs (by omega)
  unfold putSecS
  split
  · rw [List.length_cons]; omega
  · omega
theorem recs3_len (x : S44) : (recs3 x).length ≤ 3 := by
  unfold recs3 recs2 recs1; split <;> split <;> split <;> simp
theorem recs3_size (x : S44) (h1 : x.f1.size ≤ 200) (h2 : x.f2.size ≤ 200) (h40 : -9223372036854775808 ≤ x.f4) (h41 : x.f4 ≤ 9223372036854775807) : ∀ y ∈ recs3 x, y.1.size + y.2.size ≤ 300 := by
  have h3 := putSecS_le x.f4 h40 h41
  have e1 : (str bPath).size = 4 := by rw [str_size]; rfl
  have e2 : (str bLink).size = 8 := by rw [str_size]; rfl
  have e3 : (str bTime).size = 5 := by rw [str_size]; rfl
  have hh : ∀ y, y = (str bPath, x.f1) ∨ y = (str bLink, x.f2) ∨ y = (str bTime, str (putSecS x.f4)) → y.1.size + y.2.size ≤ 300 := by
    rintro y (rfl | rfl | rfl)
    · show (str bPath).size + x.f1.size ≤ 300; omega
    · show (str bLink).size + x.f2.size ≤ 300; omega
    · show (str bTime).size + (str (putSecS x.f4)).size ≤ 300; have h9 := str_size (putSecS x.f4); omega
  intro y hy
  apply hh
  unfold recs3 recs2 recs1 at hy
  split at hy <;> split at hy <;> split at hy <;> simp only [List.mem_append, List.mem_singleton, List.not_mem_nil, false_or, or_false] at hy
  all_goals first
    | exact hy.elim
    | (rcases hy with (h | h) | h <;> simp [h])
    | (rcases hy with h | h <;> simp [h])
    | simp [hy]
theorem hdP_fits (n : Nat) (h : n < 8589934592) : (hdP n).fits := ⟨octL_fit8 (show 420 < 2097152 by decide), octL_fit12 h, octL_fit12 (show 0 < 8589934592 by decide), show 420 ≤ 4611686018427387904 by decide, by show n ≤ _; omega, show 0 ≤ 4611686018427387904 by decide⟩
theorem hdS_len (h : Hd) (hf : h.fits) : (hdS h).length = 512 := by
  unfold hdS headS
  have e := head2_len h.name.data.toList h.link.data.toList h.mode h.size h.time h.kind hf.1 hf.2.1 hf.2.2.1
  have hs := sumFrom_le (head2 h.name.data.toList h.link.data.toList h.mode h.size h.time h.kind) 0
  rw [e] at hs
  have e8 := octField_length (sumS (head2 h.name.data.toList h.link.data.toList h.mode h.size h.time h.kind)) 8 (octL_fit8 (show sumFrom _ 0 < 2097152 by omega))
  rw [lay_length _ _ _ (by rw [e8, e]; decide), e]
theorem fillS_le (l : Bytes) : (fillS l).length ≤ l.length + 511 := by
  unfold fillS
  rw [List.length_append, List.length_replicate]
  omega
theorem row_bin512 {w : World} {g B : Nat} {l : Bytes} (h : Row w g l) (hB : B ≤ g) (hl : l.length = 512) : Bin w B (.slice (some ⟨g, 0, none⟩) 512 512) l := by
  have := h.bin hB (by omega)
  rw [hl] at this
  exact this
theorem secsOf_lt (t : Int) : secsOf t < 8589934592 := by
  unfold secsOf
  split
  · rename_i he
    unfold easy at he
    simp only [Bool.and_eq_true, decide_eq_true_eq] at he
    omega
  · omega
theorem paxS_len (x : S44) (h1 : x.f1.size ≤ 200) (h2 : x.f2.size ≤ 200) (h40 : -9223372036854775808 ≤ x.f4) (h41 : x.f4 ≤ 9223372036854775807) : (paxS x).length ≤ 4096 := by
  unfold paxS
  split
  · simp
  · have e1 := recsS_le 300 (by omega) (recs3 x) (recs3_size x h1 h2 h40 h41)
    have e2 := recs3_len x
    have e3 : (recs3 x).length * (300 + 23) ≤ 3 * (300 + 23) := Nat.mul_le_mul_right _ e2
    have e4 := fillS_le (recsS (recs3 x))
    rw [List.length_append, hdS_len _ (hdP_fits _ (by omega))]
    omega
theorem WrAt.cells {w : World} {x : S44} {h : Hd} {W : World} (p : Aside0 (WrAt w x h W)) : W.cell? ⟨w.heap.size, 5, none⟩ = some (.string x.f5) ∧ W.cell? ⟨w.heap.size + 1, 0, none⟩ = some (.string h.name) ∧ W.cell? ⟨w.heap.size + 1, 1, none⟩ = some (.string h.link) ∧ W.cell? ⟨w.heap.size + 1, 2, none⟩ = some (.int .i64 h.mode) ∧ W.cell? ⟨w.heap.size + 1, 3, none⟩ = some (.int .i64 h.size) ∧ W.cell? ⟨w.heap.size + 1, 4, none⟩ = some (.int .i64 h.time) ∧ W.cell? ⟨w.heap.size + 1, 5, none⟩ = some (.int .u8 h.kind.toNat) := by
  refine ⟨p.out.x5, ?_, ?_, ?_, ?_, ?_, ?_⟩
  all_goals (rw [cell_of_row W _ _ _ 80 (0, 0) p.out.hb]; rfl)
theorem WrAt.time {w : World} {x : S44} {a b : ByteArray} {m n t : Nat} {k : UInt8} {W : World} (p : Aside0 (WrAt w x ⟨a, b, m, n, 0, k⟩ W)) : Aside0 (WrAt w x ⟨a, b, m, n, t, k⟩ (W.setCell ⟨w.heap.size + 1, 4, none⟩ (.int .i64 t))) := by
  have q := p.out
  have hc : ∀ j, (W.setCell ⟨w.heap.size + 1, 4, none⟩ (.int .i64 t)).cell? ⟨w.heap.size, j, none⟩ = W.cell? ⟨w.heap.size, j, none⟩ := fun j => World.cell?_of_block (Below.heap_setCell _ _ _ _ (by simp))
  refine ⟨⟨q.below.setCell (by simp) _, by simpa [World.setCell] using q.size, (hc 1).trans q.x1, (hc 2).trans q.x2, (hc 4).trans q.x4, (hc 5).trans q.x5, ?_⟩⟩
  have hrow := q.hb
  simp only [World.setCell, Array.getElem?_modify, hrow, if_true, Option.map_some]
  rfl

set_option maxHeartbeats 4000000 in
set_option maxRecDepth 100000 in
theorem written_calls (x : S44) (m : Nat) (w : World) (hT : Tabs w) (hm : x.f3 = m) (hm2 : m < 4096) (hd : x.f5.size ≤ 1048576) (h1 : x.f1.size ≤ 200) (h2 : x.f2.size ≤ 200) (h40 : -9223372036854775808 ≤ x.f4) (h41 : x.f4 ≤ 9223372036854775807) (h00 : -9223372036854775808 ≤ x.f0) (h01 : x.f0 ≤ 9223372036854775807) :
    Calls Tryz.prog 23 #[entV x] w fun e w' => ∃ v, e = .returned v ∧ Bin w' w.heap.size v (writtenS x) ∧ Below w.heap.size w w' := by
  have HT := Aside0.mk hT
  clear hT
  obtain ⟨x0, x1, x2, x3, x4, x5⟩ := x
  simp only [entV]
  dsimp only at hm hd h1 h2 h40 h41 h00 h01
  subst hm
  go_enter Tryz.func23, Tryz.ntmps23
  go_upto_block 0 with fail
  go_cut [] (fun wx => Aside0 (WrAt w (⟨x0, x1, x2, (m : Int), x4, x5⟩ : S44) (⟨x1, x2, m, x5.size, 0, kindB x0⟩ : Hd) wx))
  case first =>
    by_cases k2 : x0 = 2
    · subst k2
      go_wp2_with fail
      go_meet
      exact WrAt.start w ⟨2, x1, x2, m, x4, x5⟩ ⟨x1, x2, m, x5.size, 0, 53⟩
    · by_cases k3 : x0 = 3
      · subst k3
        go_wp2_with fail
        go_meet
        exact WrAt.start w ⟨3, x1, x2, m, x4, x5⟩ ⟨x1, x2, m, x5.size, 0, 50⟩
      · have t2 : (x0 == 2) = false := by rw [beq_eq_false_iff_ne]; exact k2
        have t3 : (x0 == 3) = false := by rw [beq_eq_false_iff_ne]; exact k3
        have hk : Aside0 (kindB x0 = 48) := ⟨by unfold kindB; rw [if_neg k2, if_neg k3]⟩
        clear k2 k3
        go_wp2_with fail
        go_meet
        rw [hk.out]
        exact WrAt.start w ⟨x0, x1, x2, m, x4, x5⟩ ⟨x1, x2, m, x5.size, 0, 48⟩
  case rest =>
    have e1 : wc.cell? ⟨w.heap.size, 1, none⟩ = some (.string x1) := hcut.out.x1
    go_upto_if 28 with fail
    go_cut [4] (fun s4 wx => Aside0 (WrAt w (⟨x0, x1, x2, (m : Int), x4, x5⟩ : S44) (⟨x1, x2, m, x5.size, 0, kindB x0⟩ : Hd) wx) ∧ Aside0 (Kd.R k39 39 wx (w.heap.size + 2) (fun _ => True) s4 (recs1 (⟨x0, x1, x2, (m : Int), x4, x5⟩ : S44))))
    case first =>
      have C1 := hcut
      by_cases hp : 100 < x1.size
      · have HR : Aside0 (recs1 (⟨x0, x1, x2, (m : Int), x4, x5⟩ : S44) = [(str bPath, x1)]) := ⟨if_pos hp⟩
        have hpi : (100 : Int) < (x1.size : Int) := by omega
        go_wp2_with (first | ((with_reducible refine gate_builtin (b := .append) (xs := #[.tmp 29, .tmp 33]) rfl ?_); at_builtin; refine Kd.R_append k39 (w0 := wc) (w.heap.size + 2) rfl (.tmp 29) (.tmp 33) 34 39 (.agg #[.string ⟨#[]⟩, .string ⟨#[]⟩]) 32 rfl under34 info39 rfl (by decide) (by omega) (.slice none 0 0) [] (str bPath, x1) [.string (str bPath), .string x1] (fun _ => True) (fun _ => False) rfl rfl ?aP (fun _ hk => hk.elim) ?aF ?aO ?aB ?aS ?aL ?_; (case aP => exact k39_mkM _ _ _ (str bPath, x1)); (case aB => exact Below.refl _ _); (case aF => exact (fun _ _ => trivial)); (case aO => exact Kd.R_nil _ _ _ _ _); (case aS => exact C1.out.size); (case aL => decide); intro v5 w5 ho hb5 hg hat; have hO5 := Aside0.mk ho; clear ho hg hat))
        go_meet
        exact ⟨WrAt.base hb5 C1, by rw [HR.out]; exact hO5⟩
      · have HR : Aside0 (recs1 (⟨x0, x1, x2, (m : Int), x4, x5⟩ : S44) = []) := ⟨if_neg hp⟩
        have hpi : ¬ ((100 : Int) < (x1.size : Int)) := by omega
        go_wp2_with fail
        go_meet
        exact ⟨C1, by rw [HR.out]; exact ⟨Kd.R_nil _ _ _ _ _⟩⟩
    case rest =>
      obtain ⟨C1, R1⟩ := hcut
      have e2 : wc.cell? ⟨w.heap.size, 2, none⟩ = some (.string x2) := C1.out.x2
      clear e1
      go_upto_if 38 with fail
      go_cut [4] (fun s4 wx => Aside0 (WrAt w (⟨x0, x1, x2, (m : Int), x4, x5⟩ : S44) (⟨x1, x2, m, x5.size, 0, kindB x0⟩ : Hd) wx) ∧ Aside0 (Kd.R k39 39 wx (w.heap.size + 2) (fun _ => True) s4 (recs2 (⟨x0, x1, x2, (m : Int), x4, x5⟩ : S44))))
      case first =>
        by_cases hp : 100 < x2.size
        · have HR : Aside0 (recs2 (⟨x0, x1, x2, (m : Int), x4, x5⟩ : S44) = recs1 (⟨x0, x1, x2, (m : Int), x4, x5⟩ : S44) ++ [(str bLink, x2)]) := ⟨if_pos hp⟩
          have hpi : (100 : Int) < (x2.size : Int) := by omega
          have hl1 : (recs1 (⟨x0, x1, x2, (m : Int), x4, x5⟩ : S44)).length ≤ 1 := by unfold recs1; split <;> simp
          go_wp2_with (first | ((with_reducible refine gate_builtin (b := .append) (xs := #[.tmp 39, .tmp 43]) rfl ?_); at_builtin; refine Kd.R_append k39 (w0 := wc) (w.heap.size + 2) rfl (.tmp 39) (.tmp 43) 34 39 (.agg #[.string ⟨#[]⟩, .string ⟨#[]⟩]) 32 rfl under34 info39 rfl (by decide) (by omega) u4 (recs1 (⟨x0, x1, x2, (m : Int), x4, x5⟩ : S44)) (str bLink, x2) [.string (str bLink), .string x2] (fun _ => True) (fun _ => False) rfl rfl ?aP (fun _ hk => hk.elim) ?aF ?aO ?aB ?aS ?aL ?_; (case aP => exact k39_mkM _ _ _ (str bLink, x2)); (case aB => exact Below.refl _ _); (case aF => exact (fun _ _ => trivial)); (case aO => exact R1.out); (case aS => exact C1.out.size); (case aL => omega); intro v5 w5 ho hb5 hg hat; have hO5 := Aside0.mk ho; clear ho hg hat))
          go_meet
          exact ⟨WrAt.base hb5 C1, by rw [HR.out]; exact hO5⟩
        · have HR : Aside0 (recs2 (⟨x0, x1, x2, (m : Int), x4, x5⟩ : S44) = recs1 (⟨x0, x1, x2, (m : Int), x4, x5⟩ : S44)) := ⟨if_neg hp⟩
          have hpi : ¬ ((100 : Int) < (x2.size : Int)) := by omega
          go_wp2_with fail
          go_meet
          exact ⟨C1, by rw [HR.out]; exact R1⟩
      case rest =>
        obtain ⟨C2, R2⟩ := hcut
        have e4 : wc.cell? ⟨w.heap.size, 4, none⟩ = some (.int .i64 x4) := C2.out.x4
        clear e2
        go_upto_region 12 with fail
        go_cut [59] (fun s59 wx => wx = wc ∧ s59 = .bool (easy x4))
        case first =>
          by_cases a1 : Int.tmod x4 1000000000 = 0
          · have t1 : (Int.tmod x4 1000000000 == 0) = true := by rw [beq_iff_eq]; exact a1
            by_cases a2 : 0 ≤ x4
            · have hdv : Int.tdiv x4 1000000000 = x4 / 1000000000 := Int.tdiv_eq_ediv_of_nonneg a2
              have hmv : Int.tmod x4 1000000000 = x4 % 1000000000 := Int.tmod_eq_emod_of_nonneg a2
              have HE : Aside0 (easy x4 = decide (x4 / 1000000000 < 8589934592)) := ⟨by unfold easy; rw [decide_eq_true a2, decide_eq_true (by rw [← hmv]; exact a1)]; rfl⟩
              clear hmv
              go_wp2_with fail
              all_goals go_meet
              all_goals exact ⟨rfl, by rw [HE.out]⟩
            · have HE : Aside0 (easy x4 = false) := ⟨by unfold easy; rw [decide_eq_false a2]; simp⟩
              go_wp2_with fail
              all_goals go_meet
              all_goals exact ⟨rfl, by rw [HE.out]⟩
          · have t1 : (Int.tmod x4 1000000000 == 0) = false := by rw [beq_eq_false_iff_ne]; exact a1
            have HE : Aside0 (easy x4 = false) := ⟨by
              unfold easy
              by_cases a2 : 0 ≤ x4
              · rw [decide_eq_false (p := x4 % 1000000000 = 0) (by rw [← Int.tmod_eq_emod_of_nonneg a2]; exact a1)]; rfl
              · rw [decide_eq_false a2]; simp⟩
            go_wp2_with fail
            all_goals go_meet
            all_goals exact ⟨rfl, by rw [HE.out]⟩
        case rest =>
          obtain ⟨rfl, rfl⟩ := hcut
          clear e4
          go_upto_if 59 with fail
          go_cut [4] (fun s4 wx => Aside0 (WrAt w (⟨x0, x1, x2, (m : Int), x4, x5⟩ : S44) (⟨x1, x2, m, x5.size, (secsOf x4), kindB x0⟩ : Hd) wx) ∧ Aside0 (Kd.R k39 39 wx (w.heap.size + 2) (fun _ => True) s4 (recs3 (⟨x0, x1, x2, (m : Int), x4, x5⟩ : S44))))
          case first =>
            have e4 : wc.cell? ⟨w.heap.size, 4, none⟩ = some (.int .i64 x4) := C2.out.x4
            have hl2 : (recs2 (⟨x0, x1, x2, (m : Int), x4, x5⟩ : S44)).length ≤ 2 := by unfold recs2 recs1; split <;> split <;> simp
            cases he : easy x4 with
            | true =>
              have HR : Aside0 (recs3 (⟨x0, x1, x2, (m : Int), x4, x5⟩ : S44) = recs2 (⟨x0, x1, x2, (m : Int), x4, x5⟩ : S44)) := ⟨if_pos he⟩
              have hpos : 0 ≤ x4 := by
                unfold easy at he
                simp only [Bool.and_eq_true, decide_eq_true_eq] at he
                exact he.1.2
              have hn : Int.tdiv x4 1000000000 = ((secsOf x4 : Nat) : Int) := by
                rw [Int.tdiv_eq_ediv_of_nonneg hpos]
                unfold secsOf
                rw [he, if_pos rfl]
                omega
              have hn9 : secsOf x4 < 8589934592 := by
                unfold secsOf
                rw [he, if_pos rfl]
                unfold easy at he
                simp only [Bool.and_eq_true, decide_eq_true_eq] at he
                omega
              obtain ⟨n, hne⟩ : ∃ n, n = secsOf x4 := ⟨_, rfl⟩
              rw [← hne] at hn hn9
              have hnw : wrap64 (n : Int) = (n : Int) := wrap64_in _ (by omega)
              have HNE := Aside0.mk hne
              have hf : wc.frozen? ⟨w.heap.size + 1, 4, none⟩ = false := blk_frozen C2.out.hb _
              have hc4 : wc.cell? ⟨w.heap.size + 1, 4, none⟩ = some (.int .i64 0) := by rw [cell_of_row wc _ 4 _ 80 (0, 0) C2.out.hb]; rfl
              clear he hpos hne
              go_wp2_with fail
              go_meet
              rw [← HNE.out]
              refine ⟨WrAt.time C2, ?_⟩
              rw [HR.out]
              exact ⟨Kd.R_mono (Kd.R_far (Kd.R_bound R2.out) (fun k hk => by have := hk.2.1; simp; omega) _) (fun _ _ => trivial)⟩
            | false =>
              have HR : Aside0 (recs3 (⟨x0, x1, x2, (m : Int), x4, x5⟩ : S44) = recs2 (⟨x0, x1, x2, (m : Int), x4, x5⟩ : S44) ++ [(str bTime, str (putSecS x4))]) := ⟨if_neg (by rw [he]; simp)⟩
              have hs0 : Aside0 (secsOf x4 = 0) := ⟨by unfold secsOf; rw [he]; rfl⟩
              have H45 := Aside0.mk (putSeconds_calls x4 wc (HT.out.below C2.out.below) h40 h41)
              clear he
              go_wp2_with (first | (go_at_call 45; refine (H45.out).mono ?_; rintro e w4 ⟨rfl, hb4⟩; have C4 := WrAt.then_ hb4 C2) | ((with_reducible refine gate_builtin (b := .append) (xs := #[.tmp 64, .tmp 69]) rfl ?_); at_builtin; refine Kd.R_append k39 (w0 := w4) (w.heap.size + 2) rfl (.tmp 64) (.tmp 69) 34 39 (.agg #[.string ⟨#[]⟩, .string ⟨#[]⟩]) 32 rfl under34 info39 rfl (by decide) (by omega) u4 (recs2 (⟨x0, x1, x2, (m : Int), x4, x5⟩ : S44)) (str bTime, str (putSecS x4)) [.string (str bTime), .string (str (putSecS x4))] (fun _ => True) (fun _ => False) rfl rfl ?aP (fun _ hk => hk.elim) ?aF ?aO ?aB ?aS ?aL ?_; (case aP => exact k39_mkM _ _ _ (str bTime, str (putSecS x4))); (case aB => exact Below.refl _ _); (case aF => exact (fun _ _ => trivial)); (case aO => exact (Kd.R_below R2.out hb4)); (case aS => exact C4.out.size); (case aL => omega); intro v5 w5 ho hb5 hg hat; have hO5 := Aside0.mk ho; clear ho hg hat))
              go_meet
              rw [hs0.out]
              exact ⟨WrAt.base hb5 C4, by rw [HR.out]; exact hO5⟩
          case rest =>
            obtain ⟨C3, R3⟩ := hcut
            clear C1 R1 C2 R2
            obtain ⟨A, c, hv, hle, hC⟩ := Kd.R_reads R3.out
            subst hv
            obtain ⟨rs, hrs⟩ : ∃ rs, rs = recs3 (⟨x0, x1, x2, (m : Int), x4, x5⟩ : S44) := ⟨_, rfl⟩
            have hrl : rs.length ≤ 3 := by rw [hrs]; exact recs3_len _
            have hrz : ∀ y ∈ rs, y.1.size + y.2.size ≤ 300 := by rw [hrs]; exact recs3_size _ h1 h2 h40 h41
            have hpx : Aside0 (paxS (⟨x0, x1, x2, (m : Int), x4, x5⟩ : S44) = if rs = [] then [] else hdS (hdP (recsS rs).length) ++ fillS (recsS rs)) := ⟨by rw [hrs]; rfl⟩
            rw [← hrs] at hC hle
            rw [← hrs]
            clear hrs R3 hcut
            have HC := Aside0.mk hC
            clear hC
            go_upto_if 73 with fail
            go_cut [5] (fun s5 wx => Aside0 (WrAt w (⟨x0, x1, x2, (m : Int), x4, x5⟩ : S44) (⟨x1, x2, m, x5.size, (secsOf x4), kindB x0⟩ : Hd) wx) ∧ Aside0 (Bin wx (w.heap.size + 2) s5 (paxS (⟨x0, x1, x2, (m : Int), x4, x5⟩ : S44))))
            case first =>
              by_cases hr0 : rs = []
              · have hpe : Aside0 (paxS (⟨x0, x1, x2, (m : Int), x4, x5⟩ : S44) = []) := ⟨by rw [hpx.out, if_pos hr0]⟩
                have hl0 : ¬ ((0 : Int) < (rs.length : Int)) := by rw [hr0]; simp
                clear hr0
                go_wp2_with fail
                go_meet
                exact ⟨C3, ⟨by rw [hpe.out]; exact Bin.nil _ _⟩⟩
              · have hl0 : (0 : Int) < (rs.length : Int) := by have := List.length_pos_iff.2 hr0; omega
                have hrl2 := recsS_le 300 (by omega) rs hrz
                obtain ⟨S, hS⟩ : ∃ S, S = str (recsS rs) := ⟨_, rfl⟩
                have hSz : S.size ≤ 1000 := by
                  rw [hS, str_size]
                  have : rs.length * (300 + 23) ≤ 3 * (300 + 23) := Nat.mul_le_mul_right _ hrl
                  omega
                have hpe : Aside0 (paxS (⟨x0, x1, x2, (m : Int), x4, x5⟩ : S44) = hdS (hdP S.size) ++ fillS S.data.toList) := ⟨by rw [hpx.out, if_neg hr0, hS, str_size, data_str]⟩
                have H16 : Calls Tryz.prog 16 #[.slice A rs.length c] wc fun e w' => e = .returned (.string S) ∧ Below wc.heap.size wc w' := by
                  rw [hS]
                  exact records_calls A c rs wc (HT.out.below C3.out.below) HC.out hle (by omega) (fun y hy => Nat.le_trans (hrz y hy) (by omega))
                have H16 := Aside0.mk H16
                have H46 : ∀ W, Aside0 (WrAt w (⟨x0, x1, x2, (m : Int), x4, x5⟩ : S44) (⟨x1, x2, m, x5.size, (secsOf x4), kindB x0⟩ : Hd) W) → Calls Tryz.prog 46 #[hdV (hdP S.size)] W fun e w' => ∃ g, e = .returned (.slice (some ⟨g, 0, none⟩) 512 512) ∧ W.heap.size ≤ g ∧ Row w' g (hdS (hdP S.size)) ∧ Below W.heap.size W w' := fun W hW => put_calls (hdP S.size) W (HT.out.below hW.out.below) (hdP_fits _ (by omega))
                have H46 := Aside0.mk H46
                have H47 := Aside0.mk (fun W => filled_calls S W (by omega))
                clear hS hr0 hrl2
                simp only [hdV, hdP] at H46
                go_wp2_with (first | (go_at_call 16; refine (H16.out).mono ?_; rintro e w4 ⟨rfl, hb4⟩; have C4 := WrAt.then_ hb4 C3) | (go_at_call 46; refine (H46.out _ C4).mono ?_; rintro e w5 ⟨g5, rfl, hg5, hr5, hb5⟩; have C5 := WrAt.then_ hb5 C4) | (go_at_call 47; refine (H47.out _).mono ?_; rintro e w6 ⟨v6, rfl, hv6, hb6⟩; have C6 := WrAt.then_ hb6 C5) | ((with_reducible refine gate_builtin (b := .append) (xs := #[.tmp 79, .tmp 81]) rfl ?_); at_builtin; refine wpList_append_bin rfl (.tmp 79) (.tmp 81) rfl (w.heap.size + 2) (.slice (some ⟨g5, 0, none⟩) 512 512) v6 (hdS (hdP S.size)) (fillS S.data.toList) rfl rfl ?x1 ?x2 ?x3 ?x4 ?_; (case x1 => exact ((row_bin512 hr5 (Nat.le_trans C4.out.size hg5) (hdS_len _ (hdP_fits _ (by omega)))).below hb6)); (case x2 => exact hv6.reads); (case x3 => exact (by rw [hdS_len _ (hdP_fits _ (by omega))]; have := fillS_le S.data.toList; rw [data_length] at this; omega)); (case x4 => exact C6.out.size); intro v7 w7 hv7 hg7 hat7))
                go_meet
                refine ⟨WrAt.grown ((row_bin512 hr5 (Nat.le_trans C4.out.size hg5) (hdS_len _ (hdP_fits _ (by omega)))).below hb6) hg7 C6, ?_⟩
                rw [hpe.out]
                exact ⟨hv7⟩
            case rest =>
              obtain ⟨C4, B4⟩ := hcut
              clear C3 HC
              have hfits : (⟨x1, x2, m, x5.size, (secsOf x4), kindB x0⟩ : Hd).fits := ⟨octL_fit8 (show m < 2097152 by omega), octL_fit12 (show x5.size < 8589934592 by omega), octL_fit12 (secsOf_lt _), show m ≤ 4611686018427387904 by omega, show x5.size ≤ 4611686018427387904 by omega, show secsOf x4 ≤ 4611686018427387904 by have := secsOf_lt x4; omega⟩
              have hpl : (paxS (⟨x0, x1, x2, (m : Int), x4, x5⟩ : S44)).length ≤ 4096 := paxS_len (⟨x0, x1, x2, (m : Int), x4, x5⟩ : S44) h1 h2 h40 h41
              have hhl : (hdS (⟨x1, x2, m, x5.size, (secsOf x4), kindB x0⟩ : Hd)).length = 512 := hdS_len _ hfits
              have hfl : (fillS x5.data.toList).length ≤ 1048576 + 511 := by have := fillS_le x5.data.toList; rw [data_length] at this; omega
              have H46 : ∀ W, Aside0 (WrAt w (⟨x0, x1, x2, (m : Int), x4, x5⟩ : S44) (⟨x1, x2, m, x5.size, (secsOf x4), kindB x0⟩ : Hd) W) → Calls Tryz.prog 46 #[hdV (⟨x1, x2, m, x5.size, (secsOf x4), kindB x0⟩ : Hd)] W fun e w' => ∃ g, e = .returned (.slice (some ⟨g, 0, none⟩) 512 512) ∧ W.heap.size ≤ g ∧ Row w' g (hdS (⟨x1, x2, m, x5.size, (secsOf x4), kindB x0⟩ : Hd)) ∧ Below W.heap.size W w' := fun W hW => put_calls (⟨x1, x2, m, x5.size, (secsOf x4), kindB x0⟩ : Hd) W (HT.out.below hW.out.below) hfits
              have H46 := Aside0.mk H46
              have H47 := Aside0.mk (fun W => filled_calls x5 W (by omega))
              have HF : Aside0 (∀ v, v = writtenS (⟨x0, x1, x2, (m : Int), x4, x5⟩ : S44) → v = paxS (⟨x0, x1, x2, (m : Int), x4, x5⟩ : S44) ++ hdS (⟨x1, x2, m, x5.size, (secsOf x4), kindB x0⟩ : Hd) ++ fillS x5.data.toList) := ⟨fun v hv => hv⟩
              have hw2 : w.heap.size + 2 ≤ wc.drew.heap.size := C4.out.size
              have C5 := WrAt.then_ (below_drew (Below.refl _ wc)) C4
              have B5 := nextBin (below_drew (Below.refl _ wc)) B4
              obtain ⟨d5, d0, d1, d2, d3, d4, d6⟩ := WrAt.cells C4
              dsimp only at d5 d0 d1 d2 d3 d4 d6
              simp only [hdV] at H46
              clear C4 B4 hfits
              obtain ⟨px, hpx2⟩ : ∃ px, px = paxS (⟨x0, x1, x2, (m : Int), x4, x5⟩ : S44) := ⟨_, rfl⟩
              have HPX := Aside0.mk hpx2
              obtain ⟨hx, hhx⟩ : ∃ hx, hx = hdS (⟨x1, x2, m, x5.size, (secsOf x4), kindB x0⟩ : Hd) := ⟨_, rfl⟩
              have HHX := Aside0.mk hhx
              rw [← hpx2] at B5 hpl
              rw [← hhx] at H46 hhl
              clear hpx2 hhx hpx
              go_upto_region 19 with fail
              go_region_law (first | (go_simp; go_at_call 46; refine (H46.out _ (by assumption)).mono ?_; rintro e w5 ⟨g5, rfl, hg5, hr5, hb5⟩; have C6 := WrAt.then_ hb5 (by assumption); have P6 : Aside0 (RB w5 (.slice (some ⟨g5, 0, none⟩) 512 512) hx) := ⟨(row_bin512 hr5 (Nat.zero_le _) hhl).reads⟩; have hw6 := C6.out.size; obtain ⟨d5, d0, d1, d2, d3, d4, d6⟩ := WrAt.cells C6; dsimp only at d5 d0 d1 d2 d3 d4 d6; (try have B6 := nextBin (v := u5) (l := px) hb5 (by assumption)); (try have F6 := nextAway (v := v6) hb5 (by assumption))) | (go_simp; go_at_call 47; refine (H47.out _).mono ?_; rintro e w6 ⟨v6, rfl, hv6, hb6⟩; have C7 := WrAt.then_ hb6 (by assumption); have hw7 := C7.out.size; obtain ⟨d5, d0, d1, d2, d3, d4, d6⟩ := WrAt.cells C7; dsimp only at d5 d0 d1 d2 d3 d4 d6; have G7 : Aside0 (Bin w6 (w.heap.size + 2) v6 (fillS x5.data.toList)) := ⟨hv6.lower (by assumption)⟩; (try have F7 := newAway (s := u5) (m := px) (B := w.heap.size + 2) (Aside0.out (by assumption)) hv6 (by assumption)); (try have B7 := nextBin (v := u5) (l := px) hb6 (by assumption)); (try have P7 := nextRB (v := .slice (some ⟨g5, 0, none⟩) 512 512) hb6 (by assumption)); (try have A7 := nextBin (v := v7) hb6 (by assumption))) | (refine step_append_bin rfl (.tmp 83) (.tmp 85) rfl (w.heap.size + 2) u5 (.slice (some ⟨g5, 0, none⟩) 512 512) px hx rfl rfl (Aside0.out (by assumption)) (Aside0.out (by assumption)) (by rw [hhl]; omega) (by assumption) ?_; intro v7 w7 hv7 hg7 hat7; have C8 := WrAt.grown (Aside0.out (by assumption : Aside0 (Bin _ (w.heap.size + 2) u5 px))) hg7 (by assumption); have hw8 := C8.out.size; obtain ⟨d5, d0, d1, d2, d3, d4, d6⟩ := WrAt.cells C8; dsimp only at d5 d0 d1 d2 d3 d4 d6; have A8 := Aside0.mk hv7; (try have G8 := grownAway hg7 (by assumption : Aside0 (Away _ _ u5 v6 _)))) | (refine step_append_bin rfl (.tmp 86) (.tmp 89) rfl (w.heap.size + 2) v7 v6 (px ++ hx) (fillS x5.data.toList) rfl rfl (Aside0.out (by assumption)) (Bin.reads (Aside0.out (by assumption : Aside0 (Bin _ (w.heap.size + 2) v6 (fillS x5.data.toList))))) (by rw [List.length_append, hhl]; omega) (by assumption) ?_; intro v8 w8 hv8 hg8 hat8; have C9 := WrAt.grown (Aside0.out (by assumption : Aside0 (Bin _ (w.heap.size + 2) v7 (px ++ hx)))) hg8 (by assumption)))
              all_goals
                go_wp2
                go_ret
                rw [HPX.out, HHX.out] at hv8
                exact ⟨v8, rfl, hv8.lower (by omega), C9.out.below⟩
end Go.Proofs.YtkmcbpkciakmeaaGreatDoor.PA
