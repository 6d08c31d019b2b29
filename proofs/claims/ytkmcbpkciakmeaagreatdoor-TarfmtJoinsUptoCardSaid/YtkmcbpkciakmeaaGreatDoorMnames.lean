/- Records written, names cleaned, parents, entries that may be. -/
import Derived.Test.YtkmcbpkciakmeaaGreatDoorMheads
import Derived.Test.YtkmcbpkciakmeaaGreatDoorMfields
import Derived.Deep.RegionWith
import Derived.Laws.RangeAny
import Derived.Lib.OthersKept
import Derived.Lib.RuneCount

/- tarfmt.Records writes keys and values as the records that they are; nothing turns but new blocks and the orders drawn. -/
set_option linter.unusedVariables false
set_option linter.unusedSimpArgs false
namespace Go.Proofs.YtkmcbpkciakmeaaGreatDoor.PA
open Go.RowKit Go.Proofs.YtkmcbpkciakmeaaGreatDoorW.PrintWords Go.Proofs.YtkmcbpkciakmeaaGreatDoorW.PrintLast Go.Proofs.YtkmcbpkciakmeaaGreatDoorW.PrintMore

/-! ### a key and its value -/
abbrev KV := ByteArray × ByteArray
def zKV : KV := (⟨#[]⟩, ⟨#[]⟩)
def k39 : Kd KV := Kd.pair Kd.string Kd.string
theorem k39_open {w : World} {x : KV} {cs : List Value} (h : k39.K w x cs) : cs = [.string x.1, .string x.2] := by
  obtain ⟨_, _, rfl, rfl, rfl⟩ := h
  exact rfl
theorem k39_openM {w : World} {base : Nat} {ok : Nat → Prop} {x : KV} {cs : List Value} (h : k39.M w base ok x cs) : cs = [.string x.1, .string x.2] := by
  obtain ⟨_, _, rfl, rfl, rfl⟩ := h
  exact rfl
theorem k39_mk (w : World) (x : KV) : k39.K w x [.string x.1, .string x.2] := ⟨[.string x.1], [.string x.2], rfl, rfl, rfl⟩
theorem k39_mkM (w : World) (base : Nat) (ok : Nat → Prop) (x : KV) : k39.M w base ok x [.string x.1, .string x.2] := ⟨[.string x.1], [.string x.2], rfl, rfl, rfl⟩
theorem at_39 {w : World} {A : Option Addr} {n : Nat} {xs : List KV} (h : Kd.C k39 w A n xs) (i : Nat) (h1 : i < n) : ∃ ad, A = some ad ∧ w.cell? (ad.add (i * 2)) = some (.string (xs.getD i zKV).1) ∧ w.cell? ⟨(ad.add (i * 2)).block, (ad.add (i * 2)).off + 1, none⟩ = some (.string (xs.getD i zKV).2) := by
  obtain ⟨ad, c, e, _, hK, hc0⟩ := Kd.C_get h zKV (i : Int) (by omega) (by omega)
  rw [Int.toNat_natCast] at hK hc0
  have hc : ∀ j u, c[j]? = some u → w.cell? (ad.add (i * 2 + j)) = some u := hc0
  obtain rfl := k39_open hK
  exact ⟨ad, e, hc 0 _ rfl, by rw [← add_field _ _ 1 (by omega)]; exact hc 1 _ rfl⟩

/-! ### the number that counts itself -/
def decLen (n : Nat) : Nat := (Lib.decDigits n).length
theorem decLen_lt {n : Nat} (h : n < 10) : decLen n = 1 := by unfold decLen; rw [dec_lt h]; rfl
theorem decLen_ge {n : Nat} (h : 10 ≤ n) : decLen n = decLen (n / 10) + 1 := by unfold decLen; rw [dec_ge h]; simp
theorem decLen_pos (n : Nat) : 1 ≤ decLen n := by
  rcases Nat.lt_or_ge n 10 with h | h
  · rw [decLen_lt h]; exact Nat.le_refl _
  · rw [decLen_ge h]; omega
theorem decLen_mono : ∀ (b a : Nat), a ≤ b → decLen a ≤ decLen b := by
  intro b
  induction b using Nat.strongRecOn with
  | _ b ih =>
    intro a hab
    rcases Nat.lt_or_ge a 10 with h | h
    · rw [decLen_lt h]; exact decLen_pos b
    · rw [decLen_ge h, decLen_ge (show 10 ≤ b by omega)]
      have := ih (b / 10) (by omega) (a / 10) (by omega)
      omega
theorem decLen_le (n : Nat) (h : n < 18446744073709551616) : decLen n ≤ 20 := decDigits_le20 n h
def recFrom (rest : Nat) : Nat → Nat → Nat
  | 0, n => n
  | f + 1, n => if decLen n + rest = n then n else recFrom rest f (n + 1)
/-- The least number that counts the rest and its own digits. -/
def recNum (rest : Nat) : Nat := recFrom rest 24 rest
structure NumAt (rest n : Nat) : Prop where
  ge : rest ≤ n
  le : n ≤ decLen n + rest
  no : ∀ m, rest ≤ m → m < n → decLen m + rest ≠ m
theorem NumAt.start (rest : Nat) : NumAt rest rest := ⟨Nat.le_refl _, by omega, fun m h1 h2 => by omega⟩
theorem NumAt.next {rest n : Nat} (h : NumAt rest n) (hn : decLen n + rest ≠ n) : NumAt rest (decLen n + rest) := by
  have hg := h.ge; have hl := h.le
  have hm := decLen_mono (decLen n + rest) n hl
  refine ⟨by omega, by omega, fun m h1 h2 => ?_⟩
  rcases Nat.lt_trichotomy m n with h3 | h3 | h3
  · exact h.no m h1 h3
  · subst h3; exact hn
  · have := decLen_mono m n (by omega)
    omega
theorem recFrom_eq {rest n : Nat} (h : NumAt rest n) (he : decLen n + rest = n) : ∀ f m, rest ≤ m → m ≤ n → n ≤ m + f → recFrom rest f m = n
  | 0, m, h1, h2, h3 => by rw [recFrom]; omega
  | f + 1, m, h1, h2, h3 => by
    rw [recFrom]
    rcases Nat.lt_or_ge m n with h4 | h4
    · rw [if_neg (h.no m h1 h4)]
      exact recFrom_eq h he f (m + 1) (by omega) h4 (by omega)
    · obtain rfl : m = n := by omega
      rw [if_pos he]
theorem recNum_eq {rest n : Nat} (h : NumAt rest n) (he : decLen n + rest = n) (hr : rest ≤ 9223372036854775807) : recNum rest = n := by
  have h1 := h.le
  have h2 : n ≤ rest + 20 := by
    rcases Nat.lt_or_ge n 18446744073709551616 with h3 | h3
    · have := decLen_le n h3; omega
    · exfalso
      have h5 := h.no (decLen (rest + 20) + rest)
      have h6 := decLen_le (rest + 20) (by omega)
      -- the ascent from rest stands still within twenty steps
      have key : ∀ d, ∃ m, rest + d ≤ m + 0 ∧ m ≤ rest + 20 ∧ NumAt rest m ∨ ∃ m, m ≤ rest + 20 ∧ rest ≤ m ∧ decLen m + rest = m := by
        intro d
        induction d with
        | zero => exact ⟨rest, .inl ⟨by omega, by omega, NumAt.start rest⟩⟩
        | succ d ih =>
          obtain ⟨m, ⟨h7, h8, h9⟩ | h7⟩ := ih
          · by_cases h10 : decLen m + rest = m
            · exact ⟨0, .inr ⟨m, h8, h9.ge, h10⟩⟩
            · have h11 := decLen_le m (by omega)
              have h12 := h9.le
              exact ⟨decLen m + rest, .inl ⟨by omega, by omega, h9.next h10⟩⟩
          · exact ⟨0, .inr h7⟩
      obtain ⟨m, ⟨h7, h8, _⟩ | ⟨m, h7, h8, h9⟩⟩ := key 21
      · omega
      · exact h.no m h8 (by omega) h9
  exact recFrom_eq h he 24 rest (Nat.le_refl _) h.ge (by omega)

/-- A record. -/
def recB (x : KV) : Bytes := Lib.decDigits (recNum (x.1.size + x.2.size + 3)) ++ 32 :: (x.1.data.toList ++ 61 :: (x.2.data.toList ++ [10]))
def recsS (l : List KV) : Bytes := l.flatMap recB

theorem itoa_nat (n : Nat) (w : World) (hT : Tabs w) (h1 : n ≤ 9223372036854775807) :
    Calls Tryz.prog 32 #[.int .i64 n] w fun e w' => e = .returned (.string (str (Lib.decDigits n))) ∧ Below w.heap.size w w' := by
  refine (itoa_calls n w hT (by omega) (by omega)).mono ?_
  rintro e w' ⟨rfl, hb⟩
  refine ⟨?_, hb⟩
  unfold Lib.itoa
  rw [if_neg (by omega), Int.toNat_natCast]
theorem IsBuilder_below {B b : Nat} {bs : List Value} {w w' : World} (h : Lib.IsBuilder 59 5 B b bs w) (hb : Below w.heap.size w w') : Lib.IsBuilder 59 5 B b bs w' := by
  rcases h with h | h
  · have hlt := h.lt
    obtain ⟨h1, v, h2, h3, h4⟩ := h
    exact .inl ⟨h1, v, (hb.block _ hlt).trans h2, pw_own_below h3 hb, h4⟩
  · have hlt := h.lt
    obtain ⟨h1, v, h2, h3, h4⟩ := h
    exact .inr ⟨h1, v, (hb.block _ hlt).trans h2, pw_own_below h3 hb, h4⟩
theorem recB_len (x : KV) : (recB x).length ≤ decLen (recNum (x.1.size + x.2.size + 3)) + x.1.size + x.2.size + 3 := by
  unfold recB decLen
  simp only [List.length_append, List.length_cons, List.length_nil, data_length]
  omega
theorem recFrom_le (rest : Nat) : ∀ f n, recFrom rest f n ≤ n + f
  | 0, n => by rw [recFrom]; omega
  | f + 1, n => by
    rw [recFrom]; split
    · omega
    · have := recFrom_le rest f (n + 1); omega
theorem recNum_le (rest : Nat) : recNum rest ≤ rest + 24 := recFrom_le rest 24 rest
theorem recB_le (x : KV) (h : x.1.size + x.2.size ≤ 4294967296) : (recB x).length ≤ x.1.size + x.2.size + 23 := by
  have := recB_len x
  have h2 := recNum_le (x.1.size + x.2.size + 3)
  have := decLen_le (recNum (x.1.size + x.2.size + 3)) (by omega)
  omega
theorem recsS_le (N : Nat) (hN : N ≤ 4294967296) : ∀ (l : List KV), (∀ x ∈ l, x.1.size + x.2.size ≤ N) → (recsS l).length ≤ l.length * (N + 23)
  | [], _ => by simp [recsS]
  | x :: l, h => by
    have h1 := recB_le x (Nat.le_trans (h x (List.mem_cons_self ..)) hN)
    have h2 := recsS_le N hN l (fun y hy => h y (List.mem_cons_of_mem _ hy))
    have h3 := h x (List.mem_cons_self ..)
    unfold recsS at h2 ⊢
    rw [List.flatMap_cons, List.length_append, List.length_cons, Nat.add_mul]
    omega
theorem recsS_take (l : List KV) (k : Nat) (hk : k < l.length) : recsS (l.take (k + 1)) = recsS (l.take k) ++ recB (l.getD k zKV) := by
  unfold recsS
  rw [List.take_add_one, List.getElem?_eq_getElem hk, List.flatMap_append, List.getD_eq_getElem?_getD, List.getElem?_eq_getElem hk]
  simp
end Go.Proofs.YtkmcbpkciakmeaaGreatDoor.PA

/- tarfmt.Records writes keys and values as the records that they are: the walk; nothing turns but new blocks and the orders drawn. -/
set_option linter.unusedVariables false
set_option linter.unusedSimpArgs false
namespace Go.Proofs.YtkmcbpkciakmeaaGreatDoor.PA
open Go.RowKit Go.Proofs.YtkmcbpkciakmeaaGreatDoorW.PrintWords Go.Proofs.YtkmcbpkciakmeaaGreatDoorW.PrintLast Go.Proofs.YtkmcbpkciakmeaaGreatDoorW.PrintMore

theorem info59 : (Tryz.prog.info? 59).map (fun i => (i.zero, i.size)) = some (some (.agg #[.pointer none, .slice none 0 0]), 2) := by kernel_rfl

theorem rec_str (D x0 x1 : ByteArray) : D ++ (⟨#[32]⟩ : ByteArray) ++ x0 ++ (⟨#[61]⟩ : ByteArray) ++ x1 ++ (⟨#[10]⟩ : ByteArray) = str (D.data.toList ++ 32 :: (x0.data.toList ++ 61 :: (x1.data.toList ++ [10]))) := by
  apply ByteArray.ext
  apply Array.ext'
  simp [str]

/-- What the loop knows. -/
structure RcAt (w : World) (l : List KV) (k : Nat) (wr : World) : Prop where
  le : k ≤ l.length
  below : Below w.heap.size w wr
  b : Lib.IsBuilder 59 5 w.heap.size w.heap.size (Lib.byteCells (recsS (l.take k))) wr

set_option maxHeartbeats 2000000 in
set_option maxRecDepth 100000 in
theorem records_calls (A0 : Option Addr) (c0 : Nat) (xs : List KV) (w : World) (hT : Tabs w) (hr0 : Kd.C k39 w A0 xs.length xs) (hc0 : xs.length ≤ c0) (hn : xs.length ≤ 1000) (hz : ∀ x ∈ xs, x.1.size + x.2.size ≤ 4294967296) :
    Calls Tryz.prog 16 #[.slice A0 xs.length c0] w fun e w' => e = .returned (.string (str (recsS xs))) ∧ Below w.heap.size w w' := by
  have HC := Aside0.mk hr0
  have HZ := Aside0.mk hz
  have HT := Aside0.mk hT
  have hlen : ∀ k, k ≤ xs.length → (recsS (xs.take k)).length ≤ 4294967319 * 1000 := by
    intro k hk
    have := recsS_le 4294967296 (Nat.le_refl _) (xs.take k) (fun x hx => hz x (List.mem_of_mem_take hx))
    rw [List.length_take] at this
    have h2 : min k xs.length * (4294967296 + 23) ≤ 1000 * (4294967296 + 23) := Nat.mul_le_mul_right _ (by omega)
    omega
  have HL := Aside0.mk hlen
  clear hr0 hz hT hlen
  go_enter Tryz.func16, Tryz.ntmps16
  go_wp2
  go_loopw [10] (fun v10 wr => ∃ k : Nat, v10 = .int .i64 k ∧ Aside0 (RcAt w xs k wr)) (fun v10 _ => xs.length - (intOf v10).toNat)
  case atStart => exact ⟨0, rfl, ⟨⟨by omega, below_alloc (Below.refl _ _) _, Lib.fresh_isBuilder 59 5 w⟩⟩⟩
  case round =>
    obtain ⟨k, rfl, hA⟩ := hrel
    by_cases hk : k < xs.length
    · obtain ⟨ad, eA, c0_, c1_⟩ := at_39 (Kd.C_below HC.out hA.out.below) k hk
      have hmem : xs.getD k zKV ∈ xs := by rw [List.getD_eq_getElem?_getD, List.getElem?_eq_getElem hk]; exact List.getElem_mem hk
      obtain ⟨x, hx⟩ : ∃ x, xs.getD k zKV = x := ⟨_, rfl⟩
      rw [hx] at c0_ c1_ hmem
      have HX := Aside0.mk hx
      have hzx := HZ.out x hmem
      clear hx hmem
      subst eA
      obtain ⟨x0, x1⟩ := x
      dsimp only at c0_ c1_ hzx
      obtain ⟨W0, hW0⟩ : ∃ W0, W0 = wr.alloc (Obj.cells #[Value.string x0, Value.string x1] 39) := ⟨_, rfl⟩
      have hB0 : Below w.heap.size w W0 := by rw [hW0]; exact below_alloc hA.out.below _
      have hI0 : Lib.IsBuilder 59 5 w.heap.size w.heap.size (Lib.byteCells (recsS (xs.take k))) W0 := by rw [hW0]; exact IsBuilder_below hA.out.b (below_alloc (Below.refl _ _) _)
      have hd0 : W0.cell? ⟨wr.heap.size, 0, none⟩ = some (.string x0) := by rw [hW0]; simp
      have hd1 : W0.cell? ⟨wr.heap.size, 1, none⟩ = some (.string x1) := by rw [hW0]; simp
      have hwb : wr.heap.size < W0.heap.size := by rw [hW0]; simp
      have HI0 := Aside0.mk hI0
      obtain ⟨wb, hwbe⟩ : ∃ wb, wb = wr.heap.size := ⟨_, rfl⟩
      rw [← hwbe] at hd0 hd1 hwb
      have HWB := Aside0.mk hwbe
      clear hwbe
      have HB0 := Aside0.mk hB0
      have hle := Aside0.mk (hA.out.le)
      obtain ⟨rest, hrest⟩ : ∃ rest, rest = x0.size + x1.size + 3 := ⟨_, rfl⟩
      have hri : Aside0 ((x0.size : Int) + (x1.size : Int) + 3 = (rest : Int)) := ⟨by rw [hrest]; push_cast; rfl⟩
      have HW0 := Aside0.mk hW0
      clear hI0 hB0 hrest hW0
      go_wp2_with fail
      rw [← HW0.out, hri.out, ← HWB.out]
      go_loopw [7] (fun v7 wi => ∃ n : Nat, v7 = .int .i64 n ∧ n ≤ rest + 20 ∧ Aside0 (NumAt rest n) ∧ Aside0 (Below W0.heap.size W0 wi)) (fun v7 _ => rest + 20 - (intOf v7).toNat)
      case atStart => exact ⟨rest, rfl, by omega, ⟨NumAt.start rest⟩, ⟨Below.refl _ _⟩⟩
      case round =>
        obtain ⟨n, rfl, hnr, hN, hBi⟩ := hrel
        have hrs : rest ≤ 4294967299 := by have := hri.out; omega
        have H32 : ∀ W, Below W0.heap.size W0 W → Calls Tryz.prog 32 #[.int .i64 n] W fun e w' => e = .returned (.string (str (Lib.decDigits n))) ∧ Below W.heap.size W w' := fun W hW => itoa_nat n W (HT.out.below (HB0.out.trans (hW.mono HB0.out.size))) (by omega)
        have H32 := Aside0.mk H32
        have hds : ((str (Lib.decDigits n)).size : Int) = (decLen n : Int) := by rw [str_size]; rfl
        have hdl : decLen n ≤ 20 := decLen_le n (by omega)
        by_cases he : decLen n + rest = n
        · have e1 : ((decLen n : Int) + (rest : Int) != (n : Int)) = false := by rw [bne_eq_false_iff_eq]; omega
          have HF : Aside0 (recNum rest = n) := ⟨recNum_eq hN.out he (by omega)⟩
          have HE := Aside0.mk he
          clear he
          go_wp2_with (first | (go_at_call 32; refine (H32.out _ hBi.out).mono ?_; rintro e w1 ⟨rfl, hb1⟩))
          have hbA := below_then hBi.out hBi.out.size hb1
          have hns : (str (Lib.decDigits n)).size = decLen n := str_size _
          have q1 : ¬ 9223372036854775807 < (str (Lib.decDigits n)).size + 1 := by omega
          have q2 : ¬ 9223372036854775807 < (str (Lib.decDigits n)).size + 1 + x0.size := by omega
          have q3 : ¬ 9223372036854775807 < (str (Lib.decDigits n)).size + 1 + x0.size + 1 := by omega
          have q4 : ¬ 9223372036854775807 < (str (Lib.decDigits n)).size + 1 + x0.size + 1 + x1.size := by omega
          have q5 : ¬ 9223372036854775807 < (str (Lib.decDigits n)).size + 1 + x0.size + 1 + x1.size + 1 := by omega
          have HRB : Aside0 (recB (x0, x1) = Lib.decDigits n ++ 32 :: (x0.data.toList ++ 61 :: (x1.data.toList ++ [10]))) := ⟨by
            unfold recB; rw [show (x0, x1).1.size + (x0, x1).2.size + 3 = rest from by have := hri.out; show x0.size + x1.size + 3 = rest; omega, HF.out]⟩
          clear hns
          have hd0w : w1.cell? ⟨wb, 0, none⟩ = some (.string x0) := (hbA.cell (p := ⟨wb, 0, none⟩) hwb).trans hd0
          have hd1w : w1.cell? ⟨wb, 1, none⟩ = some (.string x1) := (hbA.cell (p := ⟨wb, 1, none⟩) hwb).trans hd1
          have hws : w.heap.size ≤ W0.heap.size := HB0.out.size
          have hsz : (recsS (xs.take k)).length ≤ 4294967319 * 1000 := HL.out k hle.out
          go_region_with (first | (go_at_call 32; refine (H32.out _ (below_drew hbA)).mono ?_; rintro e w2 ⟨rfl, hb2⟩; have hb2' := below_then (below_drew hbA) (below_drew hbA).size hb2; have hd0x : w2.cell? ⟨wb, 0, none⟩ = some (.string x0) := (hb2'.cell (p := ⟨wb, 0, none⟩) hwb).trans hd0; have hd1x : w2.cell? ⟨wb, 1, none⟩ = some (.string x1) := (hb2'.cell (p := ⟨wb, 1, none⟩) hwb).trans hd1) | (go_at_call 33; rw [rec_str, data_str]; refine (write_calls w.heap.size w.heap.size (recsS (xs.take k)) _ _ (IsBuilder_below HI0.out hb2') (by rw [str_size]; simp only [List.length_append, List.length_cons, List.length_nil, data_length]; have : (Lib.decDigits n).length = decLen n := rfl; omega) (Nat.le_trans hws hb2'.size)).mono ?_; rintro e w3 ⟨rfl, hI3, hb3⟩))
          all_goals
            go_wp2
            go_roundw
            case rel => exact ⟨k + 1, rfl, ⟨⟨hk, HB0.out.trans ((hb2'.mono hws).trans hb3), by rw [recsS_take xs k hk, HX.out, HRB.out]; exact hI3⟩⟩⟩
            case measure => simp [intOf]; omega
        · have e1 : ((decLen n : Int) + (rest : Int) != (n : Int)) = true := by rw [bne_iff_ne]; omega
          have HN := Aside0.mk (hN.out.next he)
          have hnl := hN.out.le
          have HE := Aside0.mk he
          clear he
          have hlt : n < decLen n + rest := by have := HE.out; omega
          go_wp2_with (first | (go_at_call 32; refine (H32.out _ hBi.out).mono ?_; rintro e w1 ⟨rfl, hb1⟩; have hb1' := below_then hBi.out hBi.out.size hb1) | (go_at_call 32; refine (H32.out _ hb1').mono ?_; rintro e w2 ⟨rfl, hb2⟩))
          go_roundw
          case rel => exact ⟨decLen n + rest, by push_cast; rfl, by omega, HN, ⟨below_then hb1' hb1'.size hb2⟩⟩
          case measure => simp [intOf]; omega
    · have HF : Aside0 (recsS (xs.take k) = recsS xs) := ⟨by rw [List.take_of_length_le (by omega)]⟩
      have HS := Aside0.mk (Tryz.Builder_String_any w.heap.size w.heap.size (recsS (xs.take k)) wr hA.out.b hA.out.below.size)
      go_wp2_with (first | (go_at_call 34; refine (HS.out).mono ?_; rintro e w1 ⟨rfl, hb1⟩))
      go_ret
      exact ⟨by rw [← HF.out]; rfl, hA.out.below.trans hb1⟩
end Go.Proofs.YtkmcbpkciakmeaaGreatDoor.PA

/- names.Valid and names.Clean answer what a path is when cleaned, of every text of at most 2^31 bytes; new blocks alone. -/
set_option linter.unusedVariables false
set_option linter.unusedSimpArgs false
namespace Go.Proofs.YtkmcbpkciakmeaaGreatDoor.PA
open Go.RowKit Go.Proofs.YtkmcbpkciakmeaaGreatDoorW.PrintWords Go.Proofs.YtkmcbpkciakmeaaGreatDoorW.PrintLast Go.Proofs.YtkmcbpkciakmeaaGreatDoorW.PrintMore

theorem namesValid_calls (s : ByteArray) (w : World) (hT : Tabs w) (hs : s.size ≤ 9223372036854775807) :
    Calls Tryz.prog 126 #[.string s] w fun e w' => e = .returned (.bool (Lib.validD s.data.toList)) ∧ Below w.heap.size w w' := by
  have H := Aside0.mk (valid_calls s w hT hs)
  go_enter Tryz.func126, Tryz.ntmps126
  go_wp2_with (first | (go_at_call 156; refine H.out.mono ?_; rintro e w' ⟨rfl, hb⟩))
  go_ret
  exact ⟨rfl, hb⟩

set_option maxHeartbeats 1000000 in
set_option maxRecDepth 100000 in
theorem clean_no1 (s : ByteArray) (w : World) (V : Bool) (h1 : ∀ W, Tabs W → Calls Tryz.prog 126 #[.string s] W fun e w' => e = .returned (.bool V) ∧ Below W.heap.size W w') (hT : Tabs w)
    (p : Bool) (h2 : ∀ W, Calls Tryz.prog 127 #[.string s, .string ⟨#[47]⟩] W fun e w' => e = .returned (.bool p) ∧ w' = W)
    (i : Int) (h3 : ∀ W, Calls Tryz.prog 128 #[.string s, .int .u8 0] W fun e w' => e = .returned (.int .i64 i) ∧ w' = W) (hi0 : -1 ≤ i) (hi1 : i ≤ 9223372036854775807)
    (hbad : V = false ∨ p = true ∨ 0 ≤ i) :
    Calls Tryz.prog 93 #[.string s] w fun e w' => e = .returned (.tuple #[.string ⟨#[]⟩, .int .i64 140]) ∧ Below w.heap.size w w' := by
  have H1 := Aside0.mk (h1 w hT)
  have H2 := Aside0.mk h2
  have H3 := Aside0.mk h3
  clear h1 h2 h3
  cases V with
  | false =>
    clear hbad
    go_enter Tryz.func93, Tryz.ntmps93
    go_wp2_with (first | (go_at_call 126; refine H1.out.mono ?_; rintro e w' ⟨rfl, hb⟩) | (go_at_call 127; refine (H2.out _).mono ?_; rintro e w' ⟨rfl, rfl⟩) | (go_at_call 128; refine (H3.out _).mono ?_; rintro e w' ⟨rfl, rfl⟩))
    go_ret2
    exact ⟨rfl, hb⟩
  | true =>
    cases p with
    | true =>
      clear hbad
      go_enter Tryz.func93, Tryz.ntmps93
      go_wp2_with (first | (go_at_call 126; refine H1.out.mono ?_; rintro e w' ⟨rfl, hb⟩) | (go_at_call 127; refine (H2.out _).mono ?_; rintro e w' ⟨rfl, rfl⟩) | (go_at_call 128; refine (H3.out _).mono ?_; rintro e w' ⟨rfl, rfl⟩))
      go_ret2
      exact ⟨rfl, hb⟩
    | false =>
      have hi : 0 ≤ i := by simpa using hbad
      clear hbad
      go_enter Tryz.func93, Tryz.ntmps93
      go_wp2_with (first | (go_at_call 126; refine H1.out.mono ?_; rintro e w' ⟨rfl, hb⟩) | (go_at_call 127; refine (H2.out _).mono ?_; rintro e w' ⟨rfl, rfl⟩) | (go_at_call 128; refine (H3.out _).mono ?_; rintro e w' ⟨rfl, rfl⟩))
      go_ret2
      exact ⟨rfl, hb⟩

def keepPart (p : ByteArray) : Bool := !(p.data.toList == [] || p.data.toList == [46])
structure CleanAt (ps acc : List ByteArray) (k : Nat) : Prop where
  le : k ≤ ps.length
  acc : acc = (ps.take k).filter keepPart
  nod : ∀ j x, j < k → ps[j]? = some x → x.data.toList ≠ [46, 46]

theorem CleanAt.skip {ps acc : List ByteArray} {k : Nat} {x : ByteArray} (h : CleanAt ps acc k) (hx : ps[k]? = some x) (hd : x.data.toList ≠ [46, 46]) (hk : keepPart x = false) : CleanAt ps acc (k + 1) := by
  have hlt := (List.getElem?_eq_some_iff.1 hx).1
  refine ⟨hlt, ?_, fun j y hj hy => ?_⟩
  · rw [List.take_add_one, hx, List.filter_append, h.acc]
    simp [hk]
  · by_cases e : j = k
    · subst e; rw [hx] at hy; obtain rfl := Option.some.inj hy; exact hd
    · exact h.nod j y (by omega) hy
theorem CleanAt.keep {ps acc : List ByteArray} {k : Nat} {x : ByteArray} (h : CleanAt ps acc k) (hx : ps[k]? = some x) (hd : x.data.toList ≠ [46, 46]) (hk : keepPart x = true) : CleanAt ps (acc ++ [x]) (k + 1) := by
  have hlt := (List.getElem?_eq_some_iff.1 hx).1
  refine ⟨hlt, ?_, fun j y hj hy => ?_⟩
  · rw [List.take_add_one, hx, List.filter_append, h.acc]
    simp [hk]
  · by_cases e : j = k
    · subst e; rw [hx] at hy; obtain rfl := Option.some.inj hy; exact hd
    · exact h.nod j y (by omega) hy
/-- What Clean answers of a path's parts. -/
def cleanEnd (ps : List ByteArray) : Bytes × Int :=
  if ps.any (fun x => x.data.toList == [46, 46]) then ([], 140)
  else if Lib.join ((ps.filter keepPart).map (·.data.toList)) [47] = [] ∨ 200 < (Lib.join ((ps.filter keepPart).map (·.data.toList)) [47]).length then ([], 140)
  else (Lib.join ((ps.filter keepPart).map (·.data.toList)) [47], 0)
theorem cleanEnd_dots {ps : List ByteArray} {k : Nat} {x : ByteArray} (hx : ps[k]? = some x) (hd : x.data.toList = [46, 46]) : cleanEnd ps = ([], 140) := by
  unfold cleanEnd
  rw [if_pos]
  exact List.any_eq_true.2 ⟨x, List.mem_of_getElem? hx, by rw [hd]; rfl⟩
theorem CleanAt.fin {ps acc : List ByteArray} {k : Nat} (h : CleanAt ps acc k) (hk : ¬ k < ps.length) : ps.any (fun x => x.data.toList == [46, 46]) = false ∧ acc = ps.filter keepPart := by
  have e : k = ps.length := by have := h.le; omega
  subst e
  refine ⟨?_, by rw [h.acc, List.take_length]⟩
  rw [List.any_eq_false]
  intro x hx
  obtain ⟨j, hj, rfl⟩ := List.getElem_of_mem hx
  have := h.nod j _ hj (List.getElem?_eq_getElem hj)
  simpa using this

set_option maxHeartbeats 2000000 in
set_option maxRecDepth 100000 in
theorem clean_loop (s : ByteArray) (w : World) (hT : Tabs w) (ps : List ByteArray) (hps : ps.length ≤ 4294967296) (hjl : (Lib.join ((ps.filter keepPart).map (·.data.toList)) [47]).length ≤ 4294967296)
    (h1 : ∀ W, Tabs W → Calls Tryz.prog 126 #[.string s] W fun e w' => e = .returned (.bool true) ∧ Below W.heap.size W w')
    (h2 : ∀ W, Calls Tryz.prog 127 #[.string s, .string ⟨#[47]⟩] W fun e w' => e = .returned (.bool false) ∧ w' = W)
    (h3 : ∀ W, Calls Tryz.prog 128 #[.string s, .int .u8 0] W fun e w' => e = .returned (.int .i64 (-1)) ∧ w' = W)
    (h4 : ∀ W, Tabs W → Calls Tryz.prog 129 #[.string s, .string ⟨#[47]⟩] W fun e w' => e = .returned (.slice (some ⟨W.heap.size, 0, none⟩) ps.length ps.length) ∧ (∀ (j : Nat) x, ps[j]? = some x → w'.cell? ⟨W.heap.size, j, none⟩ = some (.string x)) ∧ Below W.heap.size W w' ∧ W.heap.size < w'.heap.size) :
    Calls Tryz.prog 93 #[.string s] w fun e w' => e = .returned (.tuple #[.string (str (cleanEnd ps).1), .int .i64 (cleanEnd ps).2]) ∧ Below w.heap.size w w' := by
  have H1 := Aside0.mk (h1 w hT)
  have H2 := Aside0.mk h2
  have H3 := Aside0.mk h3
  have H4 := Aside0.mk h4
  clear h1 h2 h3 h4
  go_enter Tryz.func93, Tryz.ntmps93
  go_wp2_with (first | (go_at_call 126; refine H1.out.mono ?_; rintro e w1 ⟨rfl, hb⟩) | (go_at_call 127; refine (H2.out _).mono ?_; rintro e w1 ⟨rfl, rfl⟩) | (go_at_call 128; refine (H3.out _).mono ?_; rintro e w1 ⟨rfl, rfl⟩) | (go_at_call 129; refine (H4.out _ (hT.below hb)).mono ?_; rintro e w2 ⟨rfl, hcells, hb2, hlt⟩))
  have HC := Aside0.mk hcells
  clear hcells H1 H2 H3 H4
  go_loopw [4, 23] (fun v4 v23 wr => ∃ (k : Nat) (acc : List ByteArray), v23 = .int .i64 k ∧ Aside0 (CleanAt ps acc k) ∧ Aside0 (Kd.R Kd.string 9 wr w2.heap.size (fun _ => True) v4 acc) ∧ Aside0 (Below w2.heap.size w2 wr)) (fun _ v23 _ => ps.length - (intOf v23).toNat)
  case atStart => exact ⟨0, [], rfl, ⟨⟨by omega, by simp, fun j x hj => by omega⟩⟩, ⟨Kd.R_nil _ _ _ _ _⟩, ⟨Below.refl _ _⟩⟩
  case round =>
    obtain ⟨k, acc, rfl, hA, hO, hB⟩ := hrel
    by_cases hk : k < ps.length
    · have hx : ps[k]? = some ps[k] := List.getElem?_eq_getElem hk
      obtain ⟨x, hxe⟩ : ∃ x, x = ps[k] := ⟨_, rfl⟩
      rw [← hxe] at hx
      have hcell : wr.cell? ⟨w1.heap.size, k, none⟩ = some (.string x) := (hB.out.cell (p := ⟨w1.heap.size, k, none⟩) hlt).trans (HC.out k x hx)
      clear hxe
      have HX := Aside0.mk hx
      clear hx
      have hacc : acc.length ≤ ps.length := by rw [hA.out.acc]; exact Nat.le_trans (List.length_filter_le _ _) (by rw [List.length_take]; omega)
      by_cases hdd : x.data.toList = [46, 46]
      · have e1 : (x.toList == [46, 46]) = true := by rw [Lib.toList_data, hdd]; rfl
        have HE := Aside0.mk (cleanEnd_dots HX.out hdd)
        clear hdd
        go_wp2
        go_ret2
        exact ⟨by rw [HE.out]; rfl, below_then (below_then hb hb.size hb2) (Nat.le_trans hb.size hb2.size) hB.out⟩
      · have e1 : (x.toList == [46, 46]) = false := by rw [Lib.toList_data, beq_eq_false_iff_ne]; exact hdd
        by_cases he : x.data.toList = []
        · have e2 : x.toList.isEmpty = true := by rw [Lib.toList_data, he]; rfl
          have e3 : x.toList = [] := by rw [Lib.toList_data, he]
          have HN := Aside0.mk (hA.out.skip HX.out hdd (by unfold keepPart; rw [he]; rfl))
          clear hdd he
          go_wp2
          go_roundw
          case rel => exact ⟨k + 1, acc, by go_num, HN, hO, hB⟩
          case measure => simp [intOf]; omega
        · have e2 : x.toList.isEmpty = false := by rw [Lib.toList_data]; cases hh : x.data.toList with | nil => exact absurd hh he | cons _ _ => rfl
          by_cases h46 : x.data.toList = [46]
          · have e3 : (x.toList == [46]) = true := by rw [Lib.toList_data, h46]; rfl
            have HN := Aside0.mk (hA.out.skip HX.out hdd (by unfold keepPart; rw [h46]; rfl))
            clear hdd he h46
            go_wp2
            go_roundw
            case rel => exact ⟨k + 1, acc, by go_num, HN, hO, hB⟩
            case measure => simp [intOf]; omega
          · have e3 : (x.toList == [46]) = false := by rw [Lib.toList_data, beq_eq_false_iff_ne]; exact h46
            have HN := Aside0.mk (hA.out.keep HX.out hdd (by unfold keepPart; rw [beq_eq_false_iff_ne.2 he, beq_eq_false_iff_ne.2 h46]; rfl))
            clear hdd he h46
            go_wp2_with (first | ((with_reducible refine gate_builtin (b := .append) (xs := #[.tmp 28, .tmp 30]) rfl ?_); at_builtin; refine Kd.R_append Kd.string (w0 := w2) w2.heap.size rfl (.tmp 28) (.tmp 30) 75 9 (.string ⟨#[]⟩) 16 rfl Tryz.underlying75 info9 rfl (by decide) (by omega) u4 acc x [.string x] (fun _ => True) (fun _ => False) rfl rfl ?aP (fun _ hk => hk.elim) ?aF ?aO ?aB ?aS ?aL ?_; (case aP => exact rfl); (case aB => exact hB.out); (case aF => exact (fun _ _ => trivial)); (case aO => exact hO.out); (case aS => exact hB.out.size); (case aL => omega); intro v5 w5 ho hb5 hg hat; have hO5 := Aside0.mk ho; have hB5 := Aside0.mk hb5; clear ho hb5 hg hat))
            go_roundw
            case rel => exact ⟨k + 1, acc ++ [x], by go_num, HN, hO5, hB5⟩
            case measure => simp [intOf]; omega
    · obtain ⟨hany, hacc⟩ := hA.out.fin hk
      have hbw : Below w.heap.size w wr := below_then (below_then hb hb.size hb2) (Nat.le_trans hb.size hb2.size) hB.out
      have hjoin : Calls Tryz.prog 130 #[u4, .string ⟨#[47]⟩] wr fun e w' => e = .returned (.string (str (Lib.join ((ps.filter keepPart).map (·.data.toList)) [47]))) ∧ Below wr.heap.size wr w' := by
        rw [← hacc]
        have hO' := hO.out
        cases acc with
        | nil =>
          obtain ⟨A, c, hv, _, _⟩ := Kd.R_reads hO'
          rw [hv]
          exact (Tryz.strings_Join_none A c _ wr).mono fun e w' ⟨he, hw⟩ => ⟨he, hw ▸ Below.refl _ _⟩
        | cons a r =>
          obtain ⟨g, cap, hv, _, hg, _⟩ := Kd.R_form hO' (by simp)
          have hown := Kd.own_of_R (enc := Value.string) hO'
          rw [hv] at hown ⊢
          have hcap : (a :: r).length ≤ cap := by
            obtain ⟨A, c, hv2, hle, _⟩ := Kd.R_reads hO'
            rw [hv] at hv2
            injection hv2 with _ _ e3
            omega
          refine Tryz.strings_Join g 0 cap (a :: r) ⟨#[47]⟩ wr (fun j x hx => ?_) hg (by rw [hacc]; exact Nat.le_trans (List.length_filter_le _ _) (by omega)) hcap (by rw [hacc]; exact Nat.le_trans hjl (by omega))
          have := hown.cells (g := g) rfl j (.string x) (by simp only [encs, List.getElem?_map, hx]; rfl)
          rw [add_plain] at this
          rw [Nat.zero_add]
          exact this
      have HJ := Aside0.mk hjoin
      have hfin : ∀ J : Bytes, J = Lib.join ((ps.filter keepPart).map (·.data.toList)) [47] → cleanEnd ps = if J = [] ∨ 200 < J.length then ([], 140) else (J, 0) := by
        rintro J rfl
        unfold cleanEnd
        rw [hany, if_neg (by decide)]
      obtain ⟨J, hJ⟩ : ∃ J, J = Lib.join ((ps.filter keepPart).map (·.data.toList)) [47] := ⟨_, rfl⟩
      have HF := Aside0.mk (hfin J hJ)
      rw [← hJ] at HJ hjl
      clear hfin hJ hjoin hany hacc
      have hsz : (str J).size = J.length := str_size J
      by_cases hj1 : J = []
      · subst hj1
        have HE : Aside0 (cleanEnd ps = ([], 140)) := ⟨by rw [HF.out]; rfl⟩
        have e1 : (str []).toList.isEmpty = true := by rw [Lib.toList_data]; rfl
        have e2 : (str []).toList = [] := by rw [Lib.toList_data]; rfl
        clear HF hsz
        go_wp2_with (first | (go_at_call 130; refine HJ.out.mono ?_; rintro e w6 ⟨rfl, hb6⟩))
        go_ret2
        exact ⟨by rw [HE.out]; rfl, below_then hbw hbw.size hb6⟩
      · have e1 : (str J).toList.isEmpty = false := by rw [Lib.toList_data, data_str]; cases J with | nil => exact absurd rfl hj1 | cons _ _ => rfl
        by_cases hj2 : 200 < J.length
        · have HE : Aside0 (cleanEnd ps = ([], 140)) := ⟨by rw [HF.out, if_pos (.inr hj2)]⟩
          have hs2 : 200 < (str J).size := by omega
          have HS := Aside0.mk hsz
          clear hsz hj1
          go_wp2_with (first | (go_at_call 130; refine HJ.out.mono ?_; rintro e w6 ⟨rfl, hb6⟩))
          go_ret2
          exact ⟨by rw [HE.out]; rfl, below_then hbw hbw.size hb6⟩
        · have HE : Aside0 (cleanEnd ps = (J, 0)) := ⟨by rw [HF.out, if_neg (by simp [hj1, hj2])]⟩
          have hs2 : ¬ 200 < (str J).size := by omega
          have HS := Aside0.mk hsz
          clear hsz hj1
          go_wp2_with (first | (go_at_call 130; refine HJ.out.mono ?_; rintro e w6 ⟨rfl, hb6⟩))
          go_ret2
          exact ⟨by rw [HE.out]; rfl, below_then hbw hbw.size hb6⟩

theorem split_calls (s : ByteArray) (w : World) (hT : Tabs w) (hs : s.size < 4294967281) :
    Calls Tryz.prog 129 #[.string s, .string ⟨#[47]⟩] w fun e w' => e = .returned (.slice (some ⟨w.heap.size, 0, none⟩) ((split1 s.data.toList 47).map str).length ((split1 s.data.toList 47).map str).length) ∧ (∀ (j : Nat) x, ((split1 s.data.toList 47).map str)[j]? = some x → w'.cell? ⟨w.heap.size, j, none⟩ = some (.string x)) ∧ Below w.heap.size w w' ∧ w.heap.size < w'.heap.size := by
  obtain ⟨m, hm⟩ := hT.maxLen
  have hd : (Lib.splitB ⟨#[47]⟩ 0 (Lib.countB s ⟨#[47]⟩) s).map (·.data.toList) = split1 s.data.toList 47 := by
    rw [Lib.splitB_data]
    exact lib_split 47 _ _ (Nat.le_refl _)
  have hd2 : Lib.splitB ⟨#[47]⟩ 0 (Lib.countB s ⟨#[47]⟩) s = (split1 s.data.toList 47).map str := by
    rw [← hd, List.map_map]
    exact ((List.map_congr_left (fun x _ => rfl)).trans (List.map_id _)).symm
  have hl : Lib.countB s ⟨#[47]⟩ + 1 = ((split1 s.data.toList 47).map str).length := by
    rw [List.length_map, count_split]
  refine (Tryz.strings_Split s ⟨#[47]⟩ m w hs hm (by decide)).mono fun e w' ⟨he, hw⟩ => ⟨by rw [he, hl], ?_, hw ▸ below_alloc (Below.refl _ _) _, by rw [hw]; simp⟩
  intro j x hj
  subst hw
  rw [World.cell?_alloc_new, hd2]
  simp only [List.getElem?_toArray, List.getElem?_map] at hj ⊢
  rw [Option.map_map]
  cases h : (split1 s.data.toList 47)[j]? with
  | none => rw [h] at hj; simp at hj
  | some q => rw [h] at hj; simp at hj; simp [hj]

/-- What a path is, cleaned; an error's number. -/
def cleanS (l : Bytes) : Bytes × Int :=
  if Lib.validD l = false ∨ Lib.hasPrefix l [47] = true ∨ 0 ≤ Lib.indexByte l 0 then ([], 140) else cleanEnd ((split1 l 47).map str)

theorem join_split_le (l : Bytes) : (Lib.join ((((split1 l 47).map str).filter keepPart).map (·.data.toList)) [47]).length ≤ 2 * l.length + 2 := by
  have h := join_cons_le 47 ((((split1 l 47).map str).filter keepPart).map (·.data.toList))
  have e : (((split1 l 47).map str).filter keepPart).map (·.data.toList) = (split1 l 47).filter (fun x => keepPart (str x)) := by
    rw [List.filter_map, List.map_map]
    exact (List.map_congr_left (fun x _ => rfl)).trans (List.map_id _)
  rw [e] at h ⊢
  have h2 := tot_filter (fun x => keepPart (str x)) (split1 l 47)
  rw [tot_split] at h2
  omega

theorem clean_calls (s : ByteArray) (w : World) (hT : Tabs w) (hs : s.size ≤ 1073741824) :
    Calls Tryz.prog 93 #[.string s] w fun e w' => e = .returned (.tuple #[.string (str (cleanS s.data.toList).1), .int .i64 (cleanS s.data.toList).2]) ∧ Below w.heap.size w w' := by
  have hi := Lib.indexByte_ge s.data.toList 0
  have hi2 : Lib.indexByte s.data.toList 0 ≤ s.size := by
    rw [size_data, ← Lib.index_one]
    exact Lib.index_le _ _
  by_cases hbad : Lib.validD s.data.toList = false ∨ Lib.hasPrefix s.data.toList [47] = true ∨ 0 ≤ Lib.indexByte s.data.toList 0
  · have he : cleanS s.data.toList = ([], 140) := if_pos hbad
    rw [he]
    exact clean_no1 s w _ (fun W hW => namesValid_calls s W hW (by omega)) hT _ (fun W => Tryz.strings_HasPrefix s ⟨#[47]⟩ W) (Lib.indexByte s.data.toList 0) (fun W => Tryz.strings_IndexByte s 0 W) hi (by omega) hbad
  · have he : cleanS s.data.toList = cleanEnd ((split1 s.data.toList 47).map str) := if_neg hbad
    rw [he]
    have hv : Lib.validD s.data.toList = true := by cases h : Lib.validD s.data.toList with | true => rfl | false => exact absurd (.inl h) hbad
    have hp : Lib.hasPrefix s.data.toList [47] = false := by cases h : Lib.hasPrefix s.data.toList [47] with | false => rfl | true => exact absurd (.inr (.inl h)) hbad
    have hx : Lib.indexByte s.data.toList 0 = -1 := by
      rcases Int.lt_or_le (Lib.indexByte s.data.toList 0) 0 with h | h
      · omega
      · exact absurd (.inr (.inr h)) hbad
    have hl1 := split1_length s.data.toList 47
    have hl2 := join_split_le s.data.toList
    have hsd := size_data s
    refine clean_loop s w hT _ (by rw [List.length_map]; omega) (by omega) (fun W hW => ?_) (fun W => ?_) (fun W => ?_) (fun W hW => split_calls s W hW (by omega))
    · have := namesValid_calls s W hW (by omega)
      rw [hv] at this
      exact this
    · have := Tryz.strings_HasPrefix s ⟨#[47]⟩ W
      rw [show (⟨#[47]⟩ : ByteArray).data.toList = [47] from rfl, hp] at this
      exact this
    · have := Tryz.strings_IndexByte s 0 W
      rw [show ((0 : Int).toNat.toUInt8) = 0 from rfl, hx] at this
      exact this
end Go.Proofs.YtkmcbpkciakmeaaGreatDoor.PA

/- names.Parents answers what a path lies in, and tree.target whether a link's text may be, of every text; new blocks alone. -/
set_option linter.unusedVariables false
set_option linter.unusedSimpArgs false
namespace Go.Proofs.YtkmcbpkciakmeaaGreatDoor.PA
open Go.RowKit Go.Proofs.YtkmcbpkciakmeaaGreatDoorW.PrintWords Go.Proofs.YtkmcbpkciakmeaaGreatDoorW.PrintLast Go.Proofs.YtkmcbpkciakmeaaGreatDoorW.PrintMore

/-- What the first n bytes of a path say of its parents. -/
def parentsTo (l : Bytes) : Nat → List Bytes
  | 0 => []
  | n + 1 => if l[n]? = some 47 then parentsTo l n ++ [l.take n] else parentsTo l n
def parentsS (l : Bytes) : List Bytes := parentsTo l l.length
theorem parentsTo_skip (l : Bytes) (n : Nat) : ∀ d, (∀ j, n ≤ j → j < n + d → l[j]? ≠ some 47) → parentsTo l (n + d) = parentsTo l n
  | 0, _ => rfl
  | d + 1, h => by
    rw [← Nat.add_assoc, parentsTo, if_neg (h (n + d) (by omega) (by omega))]
    exact parentsTo_skip l n d (fun j h1 h2 => h j h1 (by omega))
theorem parentsTo_len (l : Bytes) : ∀ n, (parentsTo l n).length ≤ n
  | 0 => by simp [parentsTo]
  | n + 1 => by
    have := parentsTo_len l n
    rw [parentsTo]; split
    · simp; omega
    · omega

theorem get_bang (s : ByteArray) (i : Nat) (h : i < s.size) : s.get! i = s[i] := by
  simp [ByteArray.get!, getElem!_pos, h]
  rfl
theorem decode_cont (s : ByteArray) (pos : Nat) (h : pos < s.size) : ∀ j, 1 ≤ j → j < (Utf8.decode s pos).2 → ∃ h : pos + j < s.size, 128 ≤ (s[pos + j]).toNat := by
  intro j h1 h2
  have key : ∀ k, (pos + k < s.size ∧ (s.get! (pos + k)).toNat / 64 = 2) → ∃ h : pos + k < s.size, 128 ≤ (s[pos + k]).toNat := by
    rintro k ⟨hk, hd⟩
    refine ⟨hk, ?_⟩
    rw [get_bang s (pos + k) hk] at hd
    omega
  simp only [Utf8.decode] at h2
  repeat' split at h2
  all_goals simp only [Bool.and_eq_true, decide_eq_true_eq, beq_iff_eq, Bool.and_eq_true] at *
  all_goals first
    | omega
    | (exact key j ⟨by (rcases (by omega : j = 1 ∨ j = 2 ∨ j = 3) with rfl | rfl | rfl) <;> omega, by (rcases (by omega : j = 1 ∨ j = 2 ∨ j = 3) with rfl | rfl | rfl) <;> omega⟩)

theorem below_thenB {B : Nat} {a b c : World} (h : Below B a b) (hB : B ≤ B) (k : Below B b c) : Below B a c := h.trans k
structure ParAt (s : ByteArray) (acc : List ByteArray) (pos : Nat) : Prop where
  le : pos ≤ s.size
  acc : acc = (parentsTo s.data.toList pos).map str
theorem data_get (s : ByteArray) (i : Nat) (h : i < s.size) : s.data.toList[i]? = some s[i] := by
  rw [List.getElem?_eq_getElem (by rw [data_length]; exact h)]
  rfl
theorem ParAt.step {s : ByteArray} {acc : List ByteArray} {pos : Nat} (h : ParAt s acc pos) (hp : pos < s.size) (hn : s[pos] ≠ 47) : ParAt s acc (pos + (Utf8.decode s pos).2) := by
  have hw := Lib.decode_width_pos s pos hp
  have hc := decode_cont s pos hp
  have hle : pos + (Utf8.decode s pos).2 ≤ s.size := by
    rcases Nat.lt_or_ge 1 (Utf8.decode s pos).2 with h1 | h1
    · obtain ⟨h2, _⟩ := hc ((Utf8.decode s pos).2 - 1) (by omega) (by omega)
      omega
    · omega
  refine ⟨hle, ?_⟩
  rw [parentsTo_skip _ pos _ (fun j h1 h2 e => ?_)]
  · exact h.acc
  · by_cases hj : j = pos
    · subst hj
      rw [data_get s j hp] at e
      exact hn (Option.some.inj e)
    · obtain ⟨h3, h4⟩ := hc (j - pos) (by omega) (by omega)
      have e2 : pos + (j - pos) = j := by omega
      simp only [e2] at h3 h4
      rw [data_get s j h3] at e
      rw [Option.some.inj e] at h4
      revert h4; decide
theorem ParAt.slash {s : ByteArray} {acc : List ByteArray} {pos : Nat} (h : ParAt s acc pos) (hp : pos < s.size) (hn : s[pos] = 47) : ParAt s (acc ++ [s.extract 0 pos]) (pos + (Utf8.decode s pos).2) := by
  have hd : (Utf8.decode s pos).2 = 1 := by rw [decode_ascii s pos hp (by rw [hn]; decide)]
  rw [hd]
  refine ⟨hp, ?_⟩
  rw [parentsTo, if_pos (by rw [data_get s pos hp, hn]), List.map_append, ← h.acc]
  congr 2
  apply ByteArray.ext
  apply Array.ext'
  rw [Lib.extract_data]
  simp [str]

set_option maxHeartbeats 2000000 in
set_option maxRecDepth 100000 in
theorem parents_calls (s : ByteArray) (w : World) (hs : s.size ≤ 1073741824) :
    Calls Tryz.prog 98 #[.string s] w fun e w' => ∃ v, e = .returned v ∧ Kd.R Kd.string 9 w' w.heap.size (fun _ => True) v ((parentsS s.data.toList).map str) ∧ Below w.heap.size w w' := by
  go_enter Tryz.func98, Tryz.ntmps98
  go_wp2
  go_loopw [3] (fun v3 wr => ∃ (pos : Nat) (acc : List ByteArray), Aside0 (ParAt s acc pos) ∧ Aside0 (Kd.R Kd.string 9 wr (w.heap.size + 1) (fun _ => True) v3 acc) ∧ Aside0 (Below w.heap.size w wr) ∧ Aside0 (wr.heap[w.heap.size]? = some (.stringIter s pos))) (fun _ wr => s.size - wr.iterPos w.heap.size)
  case atStart => exact ⟨0, [], ⟨⟨by omega, rfl⟩⟩, ⟨Kd.R_nil _ _ _ _ _⟩, ⟨below_alloc (Below.refl _ _) _⟩, ⟨World.iter_heap w s 0⟩⟩
  case round =>
    obtain ⟨pos, acc, hA, hO, hB, hI⟩ := hrel
    by_cases hp : pos < s.size
    · have hnx : ∀ ty, (Instr.next (.pointer (some ⟨w.heap.size, 0, none⟩)) true ty).run Tryz.prog wr = _ := fun ty => Lib.run_next_any_at wr w.heap.size s pos ty hI.out hp
      obtain ⟨W1, hW1⟩ : ∃ W1, W1 = wr.iterAt w.heap.size s (pos + (Utf8.decode s pos).2) := ⟨_, rfl⟩
      rw [← hW1] at hnx
      have hI1 : Aside0 (W1.heap[w.heap.size]? = some (.stringIter s (pos + (Utf8.decode s pos).2))) := ⟨by rw [hW1]; exact Lib.iterAt_heap _ _ _ _ _ hI.out⟩
      have hB1 : Aside0 (Below w.heap.size w W1) := ⟨by rw [hW1]; exact Lib.below_iterAt hB.out (Nat.le_refl _) _ _⟩
      have hO1 : Aside0 (Kd.R Kd.string 9 W1 (w.heap.size + 1) (fun _ => True) u3 acc) := ⟨Kd.R_mono (Kd.R_step (Kd.R_bound hO.out) (fun k hk _ => by rw [hW1]; exact Lib.iterAt_other _ _ _ _ _ (by have := hk.2.1; omega))) (fun _ _ => trivial)⟩
      have hM : Aside0 (W1.iterPos w.heap.size = pos + (Utf8.decode s pos).2 ∧ wr.iterPos w.heap.size = pos ∧ 1 ≤ (Utf8.decode s pos).2) := ⟨by unfold World.iterPos; rw [hI1.out, hI.out]; exact ⟨rfl, rfl, Lib.decode_width_pos s pos hp⟩⟩
      clear hW1
      have hr0 := decode_le s pos
      by_cases h47 : s[pos] = 47
      · have hr : (Utf8.decode s pos).1 = 47 := by rw [decode_ascii s pos hp (by rw [h47]; decide), h47]; rfl
        have HN := Aside0.mk (hA.out.slash hp h47)
        have hal : acc.length ≤ s.size := by rw [hA.out.acc, List.length_map]; exact Nat.le_trans (parentsTo_len _ _) (by omega)
        rw [hr] at hnx
        clear hr h47 hr0
        go_wp2_with (first | ((with_reducible refine gate_builtin (b := .append) (xs := #[.tmp 14, .tmp 18]) rfl ?_); at_builtin; refine Kd.R_append Kd.string (w0 := W1) (w.heap.size + 1) rfl (.tmp 14) (.tmp 18) 75 9 (.string ⟨#[]⟩) 16 rfl Tryz.underlying75 info9 rfl (by decide) (by omega) u3 acc (s.extract 0 pos) [.string (s.extract 0 pos)] (fun _ => True) (fun _ => False) rfl rfl ?aP (fun _ hk => hk.elim) ?aF ?aO ?aB ?aS ?aL ?_; (case aP => exact rfl); (case aB => exact Below.refl _ _); (case aF => exact (fun _ _ => trivial)); (case aO => exact hO1.out); (case aS => exact (blk_lt hI1.out)); (case aL => omega); intro v5 w5 ho hb5 hg hat; have hO5 := Aside0.mk ho; have hB5 := Aside0.mk hb5; clear ho hb5 hg hat))
        go_roundw
        case rel => exact ⟨pos + (Utf8.decode s pos).2, acc ++ [s.extract 0 pos], HN, hO5, ⟨below_thenB hB1.out (Nat.le_refl _) (hB5.out.mono (Nat.le_succ _))⟩, ⟨(hB5.out.block _ (Nat.lt_succ_self _)).trans hI1.out⟩⟩
        case measure => have := hM.out; have h2 := hB5.out.block _ (Nat.lt_succ_self w.heap.size); unfold World.iterPos at this ⊢; rw [h2]; omega
      · have hr : (Utf8.decode s pos).1 ≠ 47 := by
          by_cases ha : (s[pos]).toNat < 128
          · rw [decode_ascii s pos hp ha]
            intro e
            exact h47 (UInt8.toNat_inj.1 e)
          · have := (decode_high s pos hp (by omega)).1
            omega
        have hr2 : (((Utf8.decode s pos).1 : Int) == 47) = false := by rw [beq_eq_false_iff_ne]; omega
        have HN := Aside0.mk (hA.out.step hp h47)
        clear hr h47
        go_wp2
        go_roundw
        case rel => exact ⟨pos + (Utf8.decode s pos).2, acc, HN, hO1, hB1, hI1⟩
        case measure => have := hM.out; omega
    · have hnx : ∀ ty, (Instr.next (.pointer (some ⟨w.heap.size, 0, none⟩)) true ty).run Tryz.prog wr = _ := fun ty => Lib.run_next_end_at wr w.heap.size s pos ty hI.out hp
      have hfin : Aside0 (acc = (parentsS s.data.toList).map str) := ⟨by
        have e : pos = s.data.toList.length := by rw [data_length]; have := hA.out.le; omega
        rw [hA.out.acc, e]; rfl⟩
      go_wp2
      go_ret
      exact ⟨_, rfl, by rw [← hfin.out]; exact Kd.R_lower hO.out (by omega), hB.out⟩

/-- May a text be a link's? -/
def targetS (l : Bytes) : Bool := l ≠ [] && decide (l.length ≤ 200) && decide (Lib.indexByte l 0 < 0) && Lib.validD l
set_option maxHeartbeats 1000000 in
set_option maxRecDepth 100000 in
theorem target_core (s : ByteArray) (w : World) (hT : Tabs w) (V : Bool) (i : Int) (hs : s.size ≤ 9223372036854775807) (hi0 : -1 ≤ i) (hi1 : i ≤ 9223372036854775807)
    (h1 : ∀ W, Tabs W → Calls Tryz.prog 126 #[.string s] W fun e w' => e = .returned (.bool V) ∧ Below W.heap.size W w')
    (h3 : ∀ W, Calls Tryz.prog 128 #[.string s, .int .u8 0] W fun e w' => e = .returned (.int .i64 i) ∧ w' = W) :
    Calls Tryz.prog 97 #[.string s] w fun e w' => e = .returned (.bool (!s.toList.isEmpty && decide (s.size ≤ 200) && decide (i < 0) && V)) ∧ Below w.heap.size w w' := by
  have H1 := Aside0.mk (h1 w hT)
  have H3 := Aside0.mk h3
  clear h1 h3
  cases he : s.toList.isEmpty with
  | true =>
    have hn : s.toList = [] := by simpa using he
    go_enter Tryz.func97, Tryz.ntmps97
    go_wp2
    go_ret
    exact ⟨by simp, Below.refl _ _⟩
  | false =>
    by_cases h2 : s.size ≤ 200
    · by_cases h3 : i < 0
      · go_enter Tryz.func97, Tryz.ntmps97
        go_wp2_with (first | (go_at_call 126; refine H1.out.mono ?_; rintro e w1 ⟨rfl, hb⟩) | (go_at_call 128; refine (H3.out _).mono ?_; rintro e w1 ⟨rfl, rfl⟩))
        go_ret
        exact ⟨by simp [h2, h3], hb⟩
      · go_enter Tryz.func97, Tryz.ntmps97
        go_wp2_with (first | (go_at_call 126; refine H1.out.mono ?_; rintro e w1 ⟨rfl, hb⟩) | (go_at_call 128; refine (H3.out _).mono ?_; rintro e w1 ⟨rfl, rfl⟩))
        go_ret
        exact ⟨by rw [decide_eq_false (show ¬ i < 0 by omega)]; simp, Below.refl _ _⟩
    · go_enter Tryz.func97, Tryz.ntmps97
      go_wp2
      go_ret
      exact ⟨by simp [h2], Below.refl _ _⟩
theorem target_calls (s : ByteArray) (w : World) (hT : Tabs w) (hs : s.size ≤ 1073741824) :
    Calls Tryz.prog 97 #[.string s] w fun e w' => e = .returned (.bool (targetS s.data.toList)) ∧ Below w.heap.size w w' := by
  have hi := Lib.indexByte_ge s.data.toList 0
  have hi2 : Lib.indexByte s.data.toList 0 ≤ s.size := by
    rw [size_data, ← Lib.index_one]
    exact Lib.index_le _ _
  have h := target_core s w hT (Lib.validD s.data.toList) (Lib.indexByte s.data.toList 0) (by omega) hi (by omega) (fun W hW => namesValid_calls s W hW (by omega)) (fun W => Tryz.strings_IndexByte s 0 W)
  refine h.mono fun e w' ⟨he, hb⟩ => ⟨?_, hb⟩
  rw [he]
  unfold targetS
  rw [Lib.toList_data, size_data]
  cases s.data.toList <;> simp
end Go.Proofs.YtkmcbpkciakmeaaGreatDoor.PA

/- tree.right answers whether an entry by itself may be, of every entry; new blocks alone. -/
set_option linter.unusedVariables false
set_option linter.unusedSimpArgs false
namespace Go.Proofs.YtkmcbpkciakmeaaGreatDoor.PA
open Go.RowKit Go.Proofs.YtkmcbpkciakmeaaGreatDoorW.PrintWords Go.Proofs.YtkmcbpkciakmeaaGreatDoorW.PrintLast Go.Proofs.YtkmcbpkciakmeaaGreatDoorW.PrintMore

def entV (x : S44) : Value := .agg #[.int .i64 x.f0, .string x.f1, .string x.f2, .int .i64 x.f3, .int .i64 x.f4, .string x.f5]
/-- What a kind asks. -/
def kindS (x : S44) : Bool :=
  if x.f0 = 1 then x.f2.toList.isEmpty else if x.f0 = 2 then x.f5.toList.isEmpty && x.f2.toList.isEmpty else if x.f0 = 3 then x.f5.toList.isEmpty && targetS x.f2.data.toList else false
def rightS (x : S44) : Bool := decide ((cleanS x.f1.data.toList).2 = 0) && decide ((cleanS x.f1.data.toList).1 = x.f1.data.toList) && decide (0 ≤ x.f3) && decide (x.f3 < 4096) && kindS x

theorem right_after {w w1 : World} {o : Obj} (hT : Tabs w) (hb : Below (w.alloc o).heap.size (w.alloc o) w1) : (∀ j, w1.cell? ⟨w.heap.size, j, none⟩ = (w.alloc o).cell? ⟨w.heap.size, j, none⟩) ∧ w.heap.size < w1.heap.size ∧ Tabs w1 := by
  refine ⟨fun j => hb.cell (p := ⟨w.heap.size, j, none⟩) (by simp), by have := hb.size; simp at this; omega, (hT.alloc o).below hb⟩
theorem right_below {w w1 : World} {o : Obj} (hb : Below (w.alloc o).heap.size (w.alloc o) w1) : Below w.heap.size w w1 := below_then (below_alloc (Below.refl _ _) o) (by simp) hb

set_option maxHeartbeats 1000000 in
set_option maxRecDepth 100000 in
theorem right_c (x : S44) (w : World) (hT : Tabs w) (P : ByteArray) (c : Int)
    (h1 : ∀ W, Tabs W → Calls Tryz.prog 93 #[.string x.f1] W fun e w' => e = .returned (.tuple #[.string P, .int .i64 c]) ∧ Below W.heap.size W w') (T : Bool)
    (h2 : ∀ W, Tabs W → Calls Tryz.prog 97 #[.string x.f2] W fun e w' => e = .returned (.bool T) ∧ Below W.heap.size W w') (hc : c ≠ 0) (hc0 : -9223372036854775808 ≤ c) (hc1 : c ≤ 9223372036854775807) :
    Calls Tryz.prog 63 #[entV x] w fun e w' => e = .returned (.bool (false)) ∧ Below w.heap.size w w' := by
  obtain ⟨x0, x1, x2, x3, x4, x5⟩ := x
  simp only [entV] at *
  have H1 := Aside0.mk h1
  have H2 := Aside0.mk h2
  clear h1 h2
  have t1 : (c != 0) = true := by rw [bne_iff_ne]; exact hc
  have t2 : (c == 0) = false := by rw [beq_eq_false_iff_ne]; exact hc
  clear hc
  go_enter Tryz.func63, Tryz.ntmps63
  go_wp2_with (first | (go_at_call 93; refine (H1.out _ (hT.alloc _)).mono ?_; rintro e w1 ⟨rfl, hb⟩; obtain ⟨hc, hz, hT1⟩ := right_after hT hb) | (go_at_call 97; refine (H2.out _ hT1).mono ?_; rintro e w2 ⟨rfl, hb2⟩))
  go_ret
  exact ⟨by first | rfl | simp, right_below hb⟩

set_option maxHeartbeats 1000000 in
set_option maxRecDepth 100000 in
theorem right_p (x : S44) (w : World) (hT : Tabs w) (P : ByteArray) (c : Int)
    (h1 : ∀ W, Tabs W → Calls Tryz.prog 93 #[.string x.f1] W fun e w' => e = .returned (.tuple #[.string P, .int .i64 c]) ∧ Below W.heap.size W w') (T : Bool)
    (h2 : ∀ W, Tabs W → Calls Tryz.prog 97 #[.string x.f2] W fun e w' => e = .returned (.bool T) ∧ Below W.heap.size W w') (hc : c = 0) (hP : P.toList ≠ x.f1.toList) :
    Calls Tryz.prog 63 #[entV x] w fun e w' => e = .returned (.bool (false)) ∧ Below w.heap.size w w' := by
  obtain ⟨x0, x1, x2, x3, x4, x5⟩ := x
  simp only [entV] at *
  have H1 := Aside0.mk h1
  have H2 := Aside0.mk h2
  clear h1 h2
  subst hc
  have t3 : (P.toList != x1.toList) = true := by rw [bne_iff_ne]; exact hP
  have t4 : (P.toList == x1.toList) = false := by rw [beq_eq_false_iff_ne]; exact hP

  go_enter Tryz.func63, Tryz.ntmps63
  go_wp2_with (first | (go_at_call 93; refine (H1.out _ (hT.alloc _)).mono ?_; rintro e w1 ⟨rfl, hb⟩; obtain ⟨hc, hz, hT1⟩ := right_after hT hb) | (go_at_call 97; refine (H2.out _ hT1).mono ?_; rintro e w2 ⟨rfl, hb2⟩))
  go_ret
  exact ⟨by first | rfl | simp, right_below hb⟩

set_option maxHeartbeats 1000000 in
set_option maxRecDepth 100000 in
theorem right_m1 (x : S44) (w : World) (hT : Tabs w) (P : ByteArray) (c : Int)
    (h1 : ∀ W, Tabs W → Calls Tryz.prog 93 #[.string x.f1] W fun e w' => e = .returned (.tuple #[.string P, .int .i64 c]) ∧ Below W.heap.size W w') (T : Bool)
    (h2 : ∀ W, Tabs W → Calls Tryz.prog 97 #[.string x.f2] W fun e w' => e = .returned (.bool T) ∧ Below W.heap.size W w') (hc : c = 0) (hP : P = x.f1) (hm : x.f3 < 0) :
    Calls Tryz.prog 63 #[entV x] w fun e w' => e = .returned (.bool (false)) ∧ Below w.heap.size w w' := by
  obtain ⟨x0, x1, x2, x3, x4, x5⟩ := x
  simp only [entV] at *
  have H1 := Aside0.mk h1
  have H2 := Aside0.mk h2
  clear h1 h2
  subst hc
  subst hP

  go_enter Tryz.func63, Tryz.ntmps63
  go_wp2_with (first | (go_at_call 93; refine (H1.out _ (hT.alloc _)).mono ?_; rintro e w1 ⟨rfl, hb⟩; obtain ⟨hc, hz, hT1⟩ := right_after hT hb) | (go_at_call 97; refine (H2.out _ hT1).mono ?_; rintro e w2 ⟨rfl, hb2⟩))
  go_ret
  exact ⟨by first | rfl | simp, right_below hb⟩

set_option maxHeartbeats 1000000 in
set_option maxRecDepth 100000 in
theorem right_m2 (x : S44) (w : World) (hT : Tabs w) (P : ByteArray) (c : Int)
    (h1 : ∀ W, Tabs W → Calls Tryz.prog 93 #[.string x.f1] W fun e w' => e = .returned (.tuple #[.string P, .int .i64 c]) ∧ Below W.heap.size W w') (T : Bool)
    (h2 : ∀ W, Tabs W → Calls Tryz.prog 97 #[.string x.f2] W fun e w' => e = .returned (.bool T) ∧ Below W.heap.size W w') (hc : c = 0) (hP : P = x.f1) (hm : 4096 ≤ x.f3) :
    Calls Tryz.prog 63 #[entV x] w fun e w' => e = .returned (.bool (false)) ∧ Below w.heap.size w w' := by
  obtain ⟨x0, x1, x2, x3, x4, x5⟩ := x
  simp only [entV] at *
  have H1 := Aside0.mk h1
  have H2 := Aside0.mk h2
  clear h1 h2
  subst hc
  subst hP

  go_enter Tryz.func63, Tryz.ntmps63
  go_wp2_with (first | (go_at_call 93; refine (H1.out _ (hT.alloc _)).mono ?_; rintro e w1 ⟨rfl, hb⟩; obtain ⟨hc, hz, hT1⟩ := right_after hT hb) | (go_at_call 97; refine (H2.out _ hT1).mono ?_; rintro e w2 ⟨rfl, hb2⟩))
  go_ret
  exact ⟨by first | rfl | simp, right_below hb⟩

set_option maxHeartbeats 1000000 in
set_option maxRecDepth 100000 in
theorem right_k1 (x : S44) (w : World) (hT : Tabs w) (P : ByteArray) (c : Int)
    (h1 : ∀ W, Tabs W → Calls Tryz.prog 93 #[.string x.f1] W fun e w' => e = .returned (.tuple #[.string P, .int .i64 c]) ∧ Below W.heap.size W w') (T : Bool)
    (h2 : ∀ W, Tabs W → Calls Tryz.prog 97 #[.string x.f2] W fun e w' => e = .returned (.bool T) ∧ Below W.heap.size W w') (hc : c = 0) (hP : P = x.f1) (hm : 0 ≤ x.f3) (hm2 : x.f3 < 4096) (hk : x.f0 = 1) :
    Calls Tryz.prog 63 #[entV x] w fun e w' => e = .returned (.bool (x.f2.toList.isEmpty)) ∧ Below w.heap.size w w' := by
  obtain ⟨x0, x1, x2, x3, x4, x5⟩ := x
  simp only [entV] at *
  have H1 := Aside0.mk h1
  have H2 := Aside0.mk h2
  clear h1 h2
  subst hc
  subst hP
  subst hk
  go_enter Tryz.func63, Tryz.ntmps63
  go_wp2_with (first | (go_at_call 93; refine (H1.out _ (hT.alloc _)).mono ?_; rintro e w1 ⟨rfl, hb⟩; obtain ⟨hc, hz, hT1⟩ := right_after hT hb) | (go_at_call 97; refine (H2.out _ hT1).mono ?_; rintro e w2 ⟨rfl, hb2⟩))
  go_ret
  exact ⟨by first | rfl | simp, right_below hb⟩

set_option maxHeartbeats 1000000 in
set_option maxRecDepth 100000 in
theorem right_k2a (x : S44) (w : World) (hT : Tabs w) (P : ByteArray) (c : Int)
    (h1 : ∀ W, Tabs W → Calls Tryz.prog 93 #[.string x.f1] W fun e w' => e = .returned (.tuple #[.string P, .int .i64 c]) ∧ Below W.heap.size W w') (T : Bool)
    (h2 : ∀ W, Tabs W → Calls Tryz.prog 97 #[.string x.f2] W fun e w' => e = .returned (.bool T) ∧ Below W.heap.size W w') (hc : c = 0) (hP : P = x.f1) (hm : 0 ≤ x.f3) (hm2 : x.f3 < 4096) (hk : x.f0 = 2) (h5 : x.f5.toList.isEmpty = true) :
    Calls Tryz.prog 63 #[entV x] w fun e w' => e = .returned (.bool (x.f2.toList.isEmpty)) ∧ Below w.heap.size w w' := by
  obtain ⟨x0, x1, x2, x3, x4, x5⟩ := x
  simp only [entV] at *
  have H1 := Aside0.mk h1
  have H2 := Aside0.mk h2
  clear h1 h2
  subst hc
  subst hP
  subst hk
  have h5' : x5.toList = [] := by simpa using h5

  go_enter Tryz.func63, Tryz.ntmps63
  go_wp2_with (first | (go_at_call 93; refine (H1.out _ (hT.alloc _)).mono ?_; rintro e w1 ⟨rfl, hb⟩; obtain ⟨hc, hz, hT1⟩ := right_after hT hb) | (go_at_call 97; refine (H2.out _ hT1).mono ?_; rintro e w2 ⟨rfl, hb2⟩))
  go_ret
  exact ⟨by first | rfl | simp, right_below hb⟩

set_option maxHeartbeats 1000000 in
set_option maxRecDepth 100000 in
theorem right_k2b (x : S44) (w : World) (hT : Tabs w) (P : ByteArray) (c : Int)
    (h1 : ∀ W, Tabs W → Calls Tryz.prog 93 #[.string x.f1] W fun e w' => e = .returned (.tuple #[.string P, .int .i64 c]) ∧ Below W.heap.size W w') (T : Bool)
    (h2 : ∀ W, Tabs W → Calls Tryz.prog 97 #[.string x.f2] W fun e w' => e = .returned (.bool T) ∧ Below W.heap.size W w') (hc : c = 0) (hP : P = x.f1) (hm : 0 ≤ x.f3) (hm2 : x.f3 < 4096) (hk : x.f0 = 2) (h5 : x.f5.toList.isEmpty = false) :
    Calls Tryz.prog 63 #[entV x] w fun e w' => e = .returned (.bool (false)) ∧ Below w.heap.size w w' := by
  obtain ⟨x0, x1, x2, x3, x4, x5⟩ := x
  simp only [entV] at *
  have H1 := Aside0.mk h1
  have H2 := Aside0.mk h2
  clear h1 h2
  subst hc
  subst hP
  subst hk
  go_enter Tryz.func63, Tryz.ntmps63
  go_wp2_with (first | (go_at_call 93; refine (H1.out _ (hT.alloc _)).mono ?_; rintro e w1 ⟨rfl, hb⟩; obtain ⟨hc, hz, hT1⟩ := right_after hT hb) | (go_at_call 97; refine (H2.out _ hT1).mono ?_; rintro e w2 ⟨rfl, hb2⟩))
  go_ret
  exact ⟨by first | rfl | simp, right_below hb⟩

set_option maxHeartbeats 1000000 in
set_option maxRecDepth 100000 in
theorem right_k3a (x : S44) (w : World) (hT : Tabs w) (P : ByteArray) (c : Int)
    (h1 : ∀ W, Tabs W → Calls Tryz.prog 93 #[.string x.f1] W fun e w' => e = .returned (.tuple #[.string P, .int .i64 c]) ∧ Below W.heap.size W w') (T : Bool)
    (h2 : ∀ W, Tabs W → Calls Tryz.prog 97 #[.string x.f2] W fun e w' => e = .returned (.bool T) ∧ Below W.heap.size W w') (hc : c = 0) (hP : P = x.f1) (hm : 0 ≤ x.f3) (hm2 : x.f3 < 4096) (hk : x.f0 = 3) (h5 : x.f5.toList.isEmpty = true) :
    Calls Tryz.prog 63 #[entV x] w fun e w' => e = .returned (.bool (T)) ∧ Below w.heap.size w w' := by
  obtain ⟨x0, x1, x2, x3, x4, x5⟩ := x
  simp only [entV] at *
  have H1 := Aside0.mk h1
  have H2 := Aside0.mk h2
  clear h1 h2
  subst hc
  subst hP
  subst hk
  have h5' : x5.toList = [] := by simpa using h5

  go_enter Tryz.func63, Tryz.ntmps63
  go_wp2_with (first | (go_at_call 93; refine (H1.out _ (hT.alloc _)).mono ?_; rintro e w1 ⟨rfl, hb⟩; obtain ⟨hc, hz, hT1⟩ := right_after hT hb) | (go_at_call 97; refine (H2.out _ hT1).mono ?_; rintro e w2 ⟨rfl, hb2⟩))
  go_ret
  exact ⟨by first | rfl | simp, below_then (right_below hb) (Nat.le_of_lt hz) hb2⟩

set_option maxHeartbeats 1000000 in
set_option maxRecDepth 100000 in
theorem right_k3b (x : S44) (w : World) (hT : Tabs w) (P : ByteArray) (c : Int)
    (h1 : ∀ W, Tabs W → Calls Tryz.prog 93 #[.string x.f1] W fun e w' => e = .returned (.tuple #[.string P, .int .i64 c]) ∧ Below W.heap.size W w') (T : Bool)
    (h2 : ∀ W, Tabs W → Calls Tryz.prog 97 #[.string x.f2] W fun e w' => e = .returned (.bool T) ∧ Below W.heap.size W w') (hc : c = 0) (hP : P = x.f1) (hm : 0 ≤ x.f3) (hm2 : x.f3 < 4096) (hk : x.f0 = 3) (h5 : x.f5.toList.isEmpty = false) :
    Calls Tryz.prog 63 #[entV x] w fun e w' => e = .returned (.bool (false)) ∧ Below w.heap.size w w' := by
  obtain ⟨x0, x1, x2, x3, x4, x5⟩ := x
  simp only [entV] at *
  have H1 := Aside0.mk h1
  have H2 := Aside0.mk h2
  clear h1 h2
  subst hc
  subst hP
  subst hk
  go_enter Tryz.func63, Tryz.ntmps63
  go_wp2_with (first | (go_at_call 93; refine (H1.out _ (hT.alloc _)).mono ?_; rintro e w1 ⟨rfl, hb⟩; obtain ⟨hc, hz, hT1⟩ := right_after hT hb) | (go_at_call 97; refine (H2.out _ hT1).mono ?_; rintro e w2 ⟨rfl, hb2⟩))
  go_ret
  exact ⟨by first | rfl | simp, right_below hb⟩

set_option maxHeartbeats 1000000 in
set_option maxRecDepth 100000 in
theorem right_k4 (x : S44) (w : World) (hT : Tabs w) (P : ByteArray) (c : Int)
    (h1 : ∀ W, Tabs W → Calls Tryz.prog 93 #[.string x.f1] W fun e w' => e = .returned (.tuple #[.string P, .int .i64 c]) ∧ Below W.heap.size W w') (T : Bool)
    (h2 : ∀ W, Tabs W → Calls Tryz.prog 97 #[.string x.f2] W fun e w' => e = .returned (.bool T) ∧ Below W.heap.size W w') (hc : c = 0) (hP : P = x.f1) (hm : 0 ≤ x.f3) (hm2 : x.f3 < 4096) (hk1 : x.f0 ≠ 1) (hk2 : x.f0 ≠ 2) (hk3 : x.f0 ≠ 3) :
    Calls Tryz.prog 63 #[entV x] w fun e w' => e = .returned (.bool (false)) ∧ Below w.heap.size w w' := by
  obtain ⟨x0, x1, x2, x3, x4, x5⟩ := x
  simp only [entV] at *
  have H1 := Aside0.mk h1
  have H2 := Aside0.mk h2
  clear h1 h2
  subst hc
  subst hP
  have u1 : (x0 == 1) = false := by rw [beq_eq_false_iff_ne]; exact hk1
  have u2 : (x0 == 2) = false := by rw [beq_eq_false_iff_ne]; exact hk2
  have u3 : (x0 == 3) = false := by rw [beq_eq_false_iff_ne]; exact hk3
  clear hk1 hk2 hk3
  go_enter Tryz.func63, Tryz.ntmps63
  go_wp2_with (first | (go_at_call 93; refine (H1.out _ (hT.alloc _)).mono ?_; rintro e w1 ⟨rfl, hb⟩; obtain ⟨hc, hz, hT1⟩ := right_after hT hb) | (go_at_call 97; refine (H2.out _ hT1).mono ?_; rintro e w2 ⟨rfl, hb2⟩))
  go_ret
  exact ⟨by first | rfl | simp, right_below hb⟩

theorem toList_iff (a b : ByteArray) : a.toList = b.toList ↔ a.data.toList = b.data.toList := by rw [Lib.toList_data, Lib.toList_data]
theorem right_calls (x : S44) (w : World) (hT : Tabs w) (h1 : x.f1.size ≤ 1073741824) (h2 : x.f2.size ≤ 1073741824) :
    Calls Tryz.prog 63 #[entV x] w fun e w' => e = .returned (.bool (rightS x)) ∧ Below w.heap.size w w' := by
  have C1 : ∀ W, Tabs W → Calls Tryz.prog 93 #[.string x.f1] W fun e w' => e = .returned (.tuple #[.string (str (cleanS x.f1.data.toList).1), .int .i64 (cleanS x.f1.data.toList).2]) ∧ Below W.heap.size W w' := fun W hW => clean_calls x.f1 W hW h1
  have C2 : ∀ W, Tabs W → Calls Tryz.prog 97 #[.string x.f2] W fun e w' => e = .returned (.bool (targetS x.f2.data.toList)) ∧ Below W.heap.size W w' := fun W hW => target_calls x.f2 W hW h2
  have hcr : (cleanS x.f1.data.toList).2 = 0 ∨ (cleanS x.f1.data.toList).2 = 140 := by
    unfold cleanS cleanEnd
    repeat' split
    all_goals simp
  have fin : ∀ b, rightS x = b → Calls Tryz.prog 63 #[entV x] w (fun e w' => e = .returned (.bool b) ∧ Below w.heap.size w w') → Calls Tryz.prog 63 #[entV x] w (fun e w' => e = .returned (.bool (rightS x)) ∧ Below w.heap.size w w') := fun b hb h => hb ▸ h
  by_cases hc : (cleanS x.f1.data.toList).2 = 0
  · have hP : (str (cleanS x.f1.data.toList).1).toList = x.f1.toList ↔ (cleanS x.f1.data.toList).1 = x.f1.data.toList := toList_iff _ _
    have hPe : (cleanS x.f1.data.toList).1 = x.f1.data.toList → str (cleanS x.f1.data.toList).1 = x.f1 := fun h => by rw [h]; rfl
    by_cases hp : (cleanS x.f1.data.toList).1 = x.f1.data.toList
    · by_cases m1 : x.f3 < 0
      · exact fin false (by unfold rightS; rw [decide_eq_false (show ¬ 0 ≤ x.f3 by omega)]; simp) (right_m1 x w hT _ _ C1 _ C2 hc (hPe hp) m1)
      · by_cases m2 : 4096 ≤ x.f3
        · exact fin false (by unfold rightS; rw [decide_eq_false (show ¬ x.f3 < 4096 by omega)]; simp) (right_m2 x w hT _ _ C1 _ C2 hc (hPe hp) m2)
        · have hr : rightS x = kindS x := by
            unfold rightS
            rw [decide_eq_true hc, decide_eq_true hp, decide_eq_true (show 0 ≤ x.f3 by omega), decide_eq_true (show x.f3 < 4096 by omega)]
            rfl
          by_cases k1 : x.f0 = 1
          · exact fin _ (by rw [hr]; unfold kindS; rw [if_pos k1]) (right_k1 x w hT _ _ C1 _ C2 hc (hPe hp) (by omega) (by omega) k1)
          · by_cases k2 : x.f0 = 2
            · cases h5 : x.f5.toList.isEmpty with
              | true => exact fin _ (by rw [hr]; unfold kindS; rw [if_neg k1, if_pos k2, h5]; rfl) (right_k2a x w hT _ _ C1 _ C2 hc (hPe hp) (by omega) (by omega) k2 h5)
              | false => exact fin _ (by rw [hr]; unfold kindS; rw [if_neg k1, if_pos k2, h5]; rfl) (right_k2b x w hT _ _ C1 _ C2 hc (hPe hp) (by omega) (by omega) k2 h5)
            · by_cases k3 : x.f0 = 3
              · cases h5 : x.f5.toList.isEmpty with
                | true => exact fin _ (by rw [hr]; unfold kindS; rw [if_neg k1, if_neg k2, if_pos k3, h5]; rfl) (right_k3a x w hT _ _ C1 _ C2 hc (hPe hp) (by omega) (by omega) k3 h5)
                | false => exact fin _ (by rw [hr]; unfold kindS; rw [if_neg k1, if_neg k2, if_pos k3, h5]; rfl) (right_k3b x w hT _ _ C1 _ C2 hc (hPe hp) (by omega) (by omega) k3 h5)
              · exact fin _ (by rw [hr]; unfold kindS; rw [if_neg k1, if_neg k2, if_neg k3]) (right_k4 x w hT _ _ C1 _ C2 hc (hPe hp) (by omega) (by omega) k1 k2 k3)
    · exact fin false (by unfold rightS; rw [decide_eq_false hp]; simp) (right_p x w hT _ _ C1 _ C2 hc (fun h => hp (hP.1 h)))
  · exact fin false (by unfold rightS; rw [decide_eq_false hc]; simp) (right_c x w hT _ _ C1 _ C2 hc (by omega) (by omega))
end Go.Proofs.YtkmcbpkciakmeaaGreatDoor.PA
