/- Records are parsed, and read as they were written. -/
import Derived.Test.YtkmcbpkciakmeaaGreatDoorMwrite
import Derived.Test.YtkmcbpkciakmeaaGreatDoorMfields
import Derived.Test.YtkmcbpkciakmeaaGreatDoorMnames
import Derived.Deep.CutBlock

/- tarfmt.Parse, of every text; nothing turns but new blocks. -/
set_option linter.unusedVariables false
set_option linter.unusedSimpArgs false
namespace Go.Proofs.YtkmcbpkciakmeaaGreatDoor.PA
open Go.RowKit Go.Proofs.YtkmcbpkciakmeaaGreatDoorW.PrintWords Go.Proofs.YtkmcbpkciakmeaaGreatDoorW.PrintLast Go.Proofs.YtkmcbpkciakmeaaGreatDoorW.PrintMore

theorem cut_len (l : Bytes) (c : UInt8) : (Lib.cut l [c]).1.length ≤ l.length ∧ (Lib.cut l [c]).2.1.length ≤ l.length := by
  rw [lib_cut]
  rcases first_cases l c with h | ⟨a, r, rfl, h⟩
  · rw [cut1_none h]; simp
  · rw [cut1_at h]; simp; omega
theorem decS_range (l : Bytes) : -4611686018427387904 ≤ (decS l).1 ∧ (decS l).1 ≤ 4611686018427387904 ∧ 0 ≤ (decS l).2 ∧ (decS l).2 ≤ 31 := by
  have h := digs_range 10 (.inr rfl) (Lib.trimPrefix l [45]) 0 0 (by omega) (by omega) (by omega)
  unfold decS decEnd
  repeat' split
  all_goals (refine ⟨?_, ?_, ?_, ?_⟩ <;> dsimp only <;> omega)
/-- The number that a text begins with, up to a blank: none, or how many bytes the record has. -/
def parseA (l : Bytes) : Option (Bytes × Nat) :=
  if (Lib.cut l [32]).2.2 = false ∨ (decS (Lib.cut l [32]).1).2 ≠ 0 ∨ Lib.itoa (decS (Lib.cut l [32]).1).1 ≠ (Lib.cut l [32]).1 ∨ (l.length : Int) < (decS (Lib.cut l [32]).1).1 ∨ (decS (Lib.cut l [32]).1).1 ≤ ((Lib.cut l [32]).1.length : Int) + 1 then none
  else some ((Lib.cut l [32]).1, (decS (Lib.cut l [32]).1).1.toNat)
/-- The record's key and value. -/
def parseB (m : Bytes) : Option KV :=
  if (Lib.cut m [61]).2.2 = false ∨ Lib.hasSuffix (Lib.cut m [61]).2.1 [10] = false ∨ (Lib.cut m [61]).1 = [] then none
  else some (str (Lib.cut m [61]).1, str (Lib.trimSuffix (Lib.cut m [61]).2.1 [10]))
def parse1 (l : Bytes) : Option (KV × Nat) :=
  match parseA l with
  | none => none
  | some (d, n) => (parseB (seg l (d.length + 1) n)).map fun kv => (kv, n)
def parseGo : Nat → Bytes → Option (List KV)
  | 0, _ => some []
  | f + 1, l => if l = [] then some [] else match parse1 l with
    | none => none
    | some (kv, n) => (parseGo f (l.drop n)).map (kv :: ·)
def parseS (l : Bytes) : Option (List KV) := parseGo l.length l
theorem parseA_pos {l d : Bytes} {n : Nat} (h : parseA l = some (d, n)) : d.length + 1 < n ∧ n ≤ l.length := by
  unfold parseA at h
  split at h
  · cases h
  · rename_i hc
    simp only [not_or] at hc
    obtain ⟨_, _, _, h4, h5⟩ := hc
    injection h with h
    injection h with h1 h2
    subst h1 h2
    omega
theorem parse1_pos {l : Bytes} {kv : KV} {n : Nat} (h : parse1 l = some (kv, n)) : 1 < n ∧ n ≤ l.length := by
  unfold parse1 at h
  split at h
  · cases h
  · rename_i d m hm
    have := parseA_pos hm
    cases hb : parseB (seg l (d.length + 1) m) with
    | none => rw [hb] at h; cases h
    | some kv' =>
      rw [hb] at h
      simp only [Option.map_some, Option.some.injEq, Prod.mk.injEq] at h
      omega
theorem parseGo_fuel : ∀ (f g : Nat) (l : Bytes), l.length ≤ f → l.length ≤ g → parseGo f l = parseGo g l
  | 0, 0, _, _, _ => rfl
  | 0, g + 1, l, h, _ => by
    obtain rfl : l = [] := List.eq_nil_of_length_eq_zero (by omega)
    rw [parseGo, parseGo, if_pos rfl]
  | f + 1, 0, l, _, h => by
    obtain rfl : l = [] := List.eq_nil_of_length_eq_zero (by omega)
    rw [parseGo, parseGo, if_pos rfl]
  | f + 1, g + 1, l, h1, h2 => by
    rw [parseGo, parseGo]
    split
    · rfl
    · cases hp : parse1 l with
      | none => rfl
      | some x =>
        obtain ⟨kv, n⟩ := x
        have := parse1_pos hp
        dsimp only
        rw [parseGo_fuel f g (l.drop n) (by rw [List.length_drop]; omega) (by rw [List.length_drop]; omega)]
theorem parseS_nil : parseS [] = some [] := rfl
theorem parseS_none {l : Bytes} (hl : l ≠ []) (h : parse1 l = none) : parseS l = none := by
  unfold parseS
  obtain ⟨n, hn⟩ : ∃ n, l.length = n + 1 := ⟨l.length - 1, by have := List.length_pos_iff.2 hl; omega⟩
  rw [hn, parseGo, if_neg hl, h]
theorem parseS_some {l : Bytes} {kv : KV} {n : Nat} (h : parse1 l = some (kv, n)) : parseS l = (parseS (l.drop n)).map (kv :: ·) := by
  have hp := parse1_pos h
  have hl : l ≠ [] := by rintro rfl; simp at hp; omega
  unfold parseS
  obtain ⟨m, hm⟩ : ∃ m, l.length = m + 1 := ⟨l.length - 1, by omega⟩
  rw [hm, parseGo, if_neg hl, h]
  dsimp only
  rw [parseGo_fuel m (l.drop n).length (l.drop n) (by rw [List.length_drop]; omega) (Nat.le_refl _)]

structure PrAt (l : Bytes) (acc : List KV) (m : Bytes) : Prop where
  eq : parseS l = (parseS m).map (acc ++ ·)
  len : m.length + acc.length ≤ l.length
theorem PrAt.step {l m : Bytes} {acc : List KV} {kv : KV} {n : Nat} (h : PrAt l acc m) (hp : parse1 m = some (kv, n)) : PrAt l (acc ++ [kv]) (m.drop n) := by
  have hn := parse1_pos hp
  refine ⟨?_, ?_⟩
  · rw [h.eq, parseS_some hp, Option.map_map]
    congr 1
    funext x
    simp
  · have := h.len
    rw [List.length_drop, List.length_append]
    simp
    omega
end Go.Proofs.YtkmcbpkciakmeaaGreatDoor.PA

/- Records that were written are read as they were; no program in sight. -/
set_option linter.unusedVariables false
set_option linter.unusedSimpArgs false
namespace Go.Proofs.YtkmcbpkciakmeaaGreatDoor.PA
open Go.RowKit Go.Proofs.YtkmcbpkciakmeaaGreatDoorW.PrintWords Go.Proofs.YtkmcbpkciakmeaaGreatDoorW.PrintLast Go.Proofs.YtkmcbpkciakmeaaGreatDoorW.PrintMore

theorem NumAt.nextR {rest n : Nat} (h : NumAt rest n) (hn : decLen n + rest ≠ n) : NumAt rest (n + 1) := by
  have hg := h.ge; have hl := h.le
  have hm := decLen_mono (n + 1) n (by omega)
  refine ⟨by omega, by omega, fun m h1 h2 => ?_⟩
  rcases Nat.lt_or_ge m n with h3 | h3
  · exact h.no m h1 h3
  · obtain rfl : m = n := by omega
    exact hn
theorem recFrom_fix (rest : Nat) (hr : rest ≤ 9223372036854775807) : ∀ f n, NumAt rest n → n ≤ rest + 20 → rest + 20 < n + f → decLen (recFrom rest f n) + rest = recFrom rest f n
  | 0, n, h, hn, hf => by omega
  | f + 1, n, h, hn, hf => by
    rw [recFrom]
    split
    · assumption
    · rename_i hne
      have hl := h.le
      have := decLen_le n (by omega)
      have h' := h.nextR hne
      have hl' := h'.le
      have := decLen_le (n + 1) (by omega)
      exact recFrom_fix rest hr f (n + 1) h' (by omega) (by omega)
theorem recNum_fix (rest : Nat) (hr : rest ≤ 9223372036854775807) : decLen (recNum rest) + rest = recNum rest := recFrom_fix rest hr 24 rest (NumAt.start rest) (by omega) (by omega)
theorem recB_length (x : KV) (h : x.1.size + x.2.size ≤ 4294967296) : (recB x).length = recNum (x.1.size + x.2.size + 3) := by
  have hf := recNum_fix (x.1.size + x.2.size + 3) (by omega)
  unfold recB
  unfold decLen at hf
  have e1 : x.1.data.toList.length = x.1.size := rfl
  have e2 : x.2.data.toList.length = x.2.size := rfl
  simp only [List.length_append, List.length_cons, List.length_nil, e1, e2]
  omega
theorem hasPrefix_dig {l : Bytes} {x : UInt8} (h : ∀ c ∈ l, c ≠ x) : Lib.hasPrefix l [x] = false := by
  cases l with
  | nil => rfl
  | cons c r =>
    have := h c (List.mem_cons_self ..)
    simp [Lib.hasPrefix, List.isPrefixOf, Ne.symm this]
theorem decS_dec (n : Nat) (hn : n ≤ 4611686018427387904) : decS (Lib.decDigits n) = ((n : Int), 0) := by
  have hp : Lib.hasPrefix (Lib.decDigits n) [45] = false := hasPrefix_dig (dec_ne n 45 (by unfold isDig; decide))
  have ht : Lib.trimPrefix (Lib.decDigits n) [45] = Lib.decDigits n := by unfold Lib.trimPrefix; rw [hp]; rfl
  unfold decS
  rw [hp, ht, digs_dec_all n hn]
  unfold decEnd
  have := decLen_pos n
  unfold decLen at this
  rw [if_neg (by simp only; omega), if_neg (by simp only; omega)]
  rfl
theorem itoa_dec (n : Nat) : Lib.itoa (n : Int) = Lib.decDigits n := by
  unfold Lib.itoa
  rw [if_neg (by omega)]
  rfl
theorem suffix_last (v : Bytes) (b : UInt8) : Lib.hasSuffix (v ++ [b]) [b] = true := by
  unfold Lib.hasSuffix
  rw [List.isSuffixOf_iff_suffix]
  exact List.suffix_append _ _
/-- A record that can be read back. -/
structure GoodKV (x : KV) : Prop where
  ne : x.1.data.toList ≠ []
  eq : ∀ b ∈ x.1.data.toList, b ≠ 61
  size : x.1.size + x.2.size ≤ 4294967296
theorem parse1_rec (x : KV) (hx : GoodKV x) (t : Bytes) : parse1 (recB x ++ t) = some (x, (recB x).length) := by
  have hlen := recB_length x hx.size
  have hfix := recNum_fix (x.1.size + x.2.size + 3) (by have := hx.size; omega)
  have hle := recNum_le (x.1.size + x.2.size + 3)
  have hsz := hx.size
  obtain ⟨n, hn⟩ : ∃ n, n = recNum (x.1.size + x.2.size + 3) := ⟨_, rfl⟩
  rw [← hn] at hlen hfix hle
  have hB : recB x = Lib.decDigits n ++ 32 :: (x.1.data.toList ++ 61 :: (x.2.data.toList ++ [10])) := by unfold recB; rw [hn]
  have hcut : Lib.cut (recB x ++ t) [32] = (Lib.decDigits n, x.1.data.toList ++ 61 :: (x.2.data.toList ++ [10]) ++ t, true) := by
    rw [lib_cut, hB, List.append_assoc, List.cons_append]
    exact cut1_at (dec_ne n 32 (by unfold isDig; decide))
  have hA : parseA (recB x ++ t) = some (Lib.decDigits n, n) := by
    unfold parseA
    rw [hcut]
    simp only
    rw [decS_dec n (by omega)]
    simp only
    unfold decLen at hfix
    rw [if_neg, Int.toNat_natCast]
    rw [itoa_dec, List.length_append, hlen]
    push_cast
    simp
    omega
  have hseg : seg (recB x ++ t) ((Lib.decDigits n).length + 1) n = x.1.data.toList ++ 61 :: (x.2.data.toList ++ [10]) := by
    unfold seg
    rw [List.take_append_of_le_length (by omega), List.take_of_length_le (by omega), hB]
    rw [show Lib.decDigits n ++ 32 :: (x.1.data.toList ++ 61 :: (x.2.data.toList ++ [10])) = (Lib.decDigits n ++ [32]) ++ (x.1.data.toList ++ 61 :: (x.2.data.toList ++ [10])) by simp]
    rw [List.drop_left' (by simp)]
  have hBb : parseB (x.1.data.toList ++ 61 :: (x.2.data.toList ++ [10])) = some x := by
    unfold parseB
    rw [lib_cut, cut1_at hx.eq]
    simp only
    rw [suffix_last, if_neg (by simp [hx.ne])]
    unfold Lib.trimSuffix
    rw [suffix_last, if_pos rfl]
    simp [str_data]
  unfold parse1
  rw [hA]
  simp only
  rw [hseg, hBb, hlen]
  rfl
theorem parseS_recs : ∀ (l : List KV), (∀ x ∈ l, GoodKV x) → parseS (recsS l) = some l
  | [], _ => rfl
  | x :: l, h => by
    have ih := parseS_recs l fun y hy => h y (List.mem_cons_of_mem _ hy)
    have e : recsS (x :: l) = recB x ++ recsS l := rfl
    rw [e, parseS_some (parse1_rec x (h x (List.mem_cons_self ..)) (recsS l)), List.drop_left' rfl, ih]
    rfl
end Go.Proofs.YtkmcbpkciakmeaaGreatDoor.PA

/- tarfmt.Parse, of every text: the walk; nothing turns but new blocks. -/
set_option linter.unusedVariables false
set_option linter.unusedSimpArgs false
namespace Go.Proofs.YtkmcbpkciakmeaaGreatDoor.PA
open Go.RowKit Go.Proofs.YtkmcbpkciakmeaaGreatDoorW.PrintWords Go.Proofs.YtkmcbpkciakmeaaGreatDoorW.PrintLast Go.Proofs.YtkmcbpkciakmeaaGreatDoorW.PrintMore

theorem toList_inj' {a b : ByteArray} (h : a.toList = b.toList) : a = b := by
  rw [Lib.toList_data, Lib.toList_data] at h
  exact ByteArray.ext (Array.ext' h)
def ParsePost (s : ByteArray) (w : World) (e : Ending) (w' : World) : Prop :=
  ((parseS s.data.toList = none ∧ e = .returned (.tuple #[.slice none 0 0, .bool false])) ∨ ∃ kvs v, parseS s.data.toList = some kvs ∧ e = .returned (.tuple #[v, .bool true]) ∧ Kd.R k39 39 w' w.heap.size (fun _ => True) v kvs) ∧ Below w.heap.size w w'

set_option maxHeartbeats 4000000 in
set_option maxRecDepth 100000 in
theorem parse_calls (s : ByteArray) (w : World) (hT : Tabs w) (hs : s.size ≤ 1073741824) :
    Calls Tryz.prog 18 #[.string s] w (ParsePost s w) := by
  have HT := Aside0.mk hT
  clear hT
  go_enter Tryz.func18, Tryz.ntmps18
  go_wp2
  go_loopw [0, 4] (fun v0 v4 wr => ∃ (t : ByteArray) (acc : List KV), v0 = .string t ∧ Aside0 (PrAt s.data.toList acc t.data.toList) ∧ Aside0 (Kd.R k39 39 wr w.heap.size (fun _ => True) v4 acc) ∧ Aside0 (Below w.heap.size w wr)) (fun v0 _ _ => match v0 with | .string t => t.size | _ => 0)
  case atStart => exact ⟨s, [], rfl, ⟨⟨by simp, by simp⟩⟩, ⟨Kd.R_nil _ _ _ _ _⟩, ⟨Below.refl _ _⟩⟩
  case round =>
    obtain ⟨t, acc, rfl, hA, hR, hB⟩ := hrel
    have hts : t.size ≤ 1073741824 := by have := hA.out.len; rw [data_length, data_length] at this; omega
    have hal : acc.length ≤ 1073741824 := by have := hA.out.len; rw [data_length, data_length] at this; omega
    cases hte : t.toList.isEmpty with
    | true =>
      have hd0 : t.data.toList = [] := by rw [Lib.toList_data, List.isEmpty_iff] at hte; exact hte
      have hl0 : t.toList = [] := by rw [Lib.toList_data, hd0]
      have HF : Aside0 (parseS s.data.toList = some acc) := ⟨by rw [hA.out.eq, hd0, parseS_nil]; simp⟩
      clear hd0
      go_wp2
      go_ret2
      exact ⟨.inr ⟨acc, _, HF.out, rfl, hR.out⟩, hB.out⟩
    | false =>
      have hd0 : t.data.toList ≠ [] := by rw [Lib.toList_data] at hte; rintro h; rw [h] at hte; simp at hte
      have hl0 : t.toList ≠ [] := by rw [Lib.toList_data]; exact hd0
      have HD0 := Aside0.mk hd0
      have H36 := fun W (hW : Tabs W) => cut_calls t ⟨#[32]⟩ W hW (by omega)
      have e32 : (⟨#[32]⟩ : ByteArray).data.toList = [32] := rfl
      rw [e32] at H36
      have hcl : (Lib.cut t.data.toList [32]).1.length ≤ t.data.toList.length := (cut_len _ _).1
      have hpa : parseA t.data.toList = if (Lib.cut t.data.toList [32]).2.2 = false ∨ (decS (Lib.cut t.data.toList [32]).1).2 ≠ 0 ∨ Lib.itoa (decS (Lib.cut t.data.toList [32]).1).1 ≠ (Lib.cut t.data.toList [32]).1 ∨ (t.data.toList.length : Int) < (decS (Lib.cut t.data.toList [32]).1).1 ∨ (decS (Lib.cut t.data.toList [32]).1).1 ≤ ((Lib.cut t.data.toList [32]).1.length : Int) + 1 then none
        else some ((Lib.cut t.data.toList [32]).1, (decS (Lib.cut t.data.toList [32]).1).1.toNat) := rfl
      obtain ⟨a, ha⟩ : ∃ a, a = (Lib.cut t.data.toList [32]).1 := ⟨_, rfl⟩
      obtain ⟨r, hr⟩ : ∃ r, r = str (Lib.cut t.data.toList [32]).2.1 := ⟨_, rfl⟩
      obtain ⟨is, his⟩ : ∃ is, is = (Lib.cut t.data.toList [32]).2.2 := ⟨_, rfl⟩
      rw [← ha, ← hr, ← his] at H36
      rw [← ha, ← his] at hpa
      rw [← ha] at hcl
      have H37 := fun W => decimal_calls (str a) W (by rw [str_size]; rw [data_length] at hcl; omega)
      rw [data_str] at H37
      have hdr := decS_range a
      obtain ⟨n, hn⟩ : ∃ n, n = (decS a).1 := ⟨_, rfl⟩
      obtain ⟨e, he⟩ : ∃ e, e = (decS a).2 := ⟨_, rfl⟩
      rw [← hn, ← he] at H37 hdr
      rw [← hn, ← he] at hpa
      have H32 := fun W (hW : Tabs W) => itoa_calls n W hW (by omega) (by omega)
      rw [data_length] at hpa hcl
      have H36 := Aside0.mk H36
      have H37 := Aside0.mk H37
      have H32 := Aside0.mk H32
      have T1 := HT.out.below hB.out
      have HPA := Aside0.mk hpa
      have hsa : (str a).size = a.length := str_size a
      have hfin : parse1 t.data.toList = none → parseS s.data.toList = none := fun h => by rw [hA.out.eq, parseS_none HD0.out h]; rfl
      have HFIN := Aside0.mk hfin
      have hp1 : parseA t.data.toList = none → parse1 t.data.toList = none := fun h => by unfold parse1; rw [h]
      have HP1 := Aside0.mk hp1
      have HHN := Aside0.mk hn
      clear hpa hfin hp1 hd0 ha hr his hn he e32
      cases is with
      | false =>
        have HF := HFIN.out (HP1.out (by rw [HPA.out, if_pos (.inl rfl)]))
        have HF := Aside0.mk HF
        go_wp2_with (first | (go_at_call 36; refine (H36.out _ T1).mono ?_; rintro e1 w1 ⟨rfl, hb1⟩; have B1 := below_then hB.out hB.out.size hb1) | (go_at_call 37; refine (H37.out _).mono ?_; rintro e2 w2 ⟨rfl, hb2⟩; have B2 := below_then B1 B1.size hb2; have T2 := HT.out.below B2) | (go_at_call 32; refine (H32.out _ T2).mono ?_; rintro e3 w3 ⟨rfl, hb3⟩; have B3 := below_then B2 B2.size hb3))
        go_ret2
        exact ⟨.inl ⟨HF.out, rfl⟩, B2⟩
      | true =>
        by_cases e0 : e = 0
        · subst e0
          by_cases hit : Lib.itoa n = a
          · have hit2 : ((str (Lib.itoa n)).toList != (str a).toList) = false := by rw [hit]; simp
            by_cases hnl : (t.size : Int) < n
            · have HF := HFIN.out (HP1.out (by rw [HPA.out, if_pos (.inr (.inr (.inr (.inl hnl))))]))
              have HF := Aside0.mk HF
              have hd1 : decide ((t.size : Int) < n) = true := decide_eq_true hnl
              go_wp2_with (first | (go_at_call 36; refine (H36.out _ T1).mono ?_; rintro e1 w1 ⟨rfl, hb1⟩; have B1 := below_then hB.out hB.out.size hb1) | (go_at_call 37; refine (H37.out _).mono ?_; rintro e2 w2 ⟨rfl, hb2⟩; have B2 := below_then B1 B1.size hb2; have T2 := HT.out.below B2) | (go_at_call 32; refine (H32.out _ T2).mono ?_; rintro e3 w3 ⟨rfl, hb3⟩; have B3 := below_then B2 B2.size hb3))
              go_ret2
              exact ⟨.inl ⟨HF.out, rfl⟩, B3⟩
            · by_cases hna : n ≤ (a.length : Int) + 1
              · have HF := HFIN.out (HP1.out (by rw [HPA.out, if_pos (.inr (.inr (.inr (.inr hna))))]))
                have HF := Aside0.mk HF
                have hd1 : decide ((t.size : Int) < n) = false := decide_eq_false hnl
                have hd2 : decide (n ≤ (a.length : Int) + 1) = true := decide_eq_true hna
                go_wp2_with (first | (go_at_call 36; refine (H36.out _ T1).mono ?_; rintro e1 w1 ⟨rfl, hb1⟩; have B1 := below_then hB.out hB.out.size hb1) | (go_at_call 37; refine (H37.out _).mono ?_; rintro e2 w2 ⟨rfl, hb2⟩; have B2 := below_then B1 B1.size hb2; have T2 := HT.out.below B2) | (go_at_call 32; refine (H32.out _ T2).mono ?_; rintro e3 w3 ⟨rfl, hb3⟩; have B3 := below_then B2 B2.size hb3))
                go_ret2
                exact ⟨.inl ⟨HF.out, rfl⟩, B3⟩
              · obtain ⟨N, hN⟩ : ∃ N : Nat, n = N := ⟨n.toNat, by omega⟩
                subst hN
                have hd1 : decide ((t.size : Int) < (N : Int)) = false := decide_eq_false hnl
                have hd2 : decide ((N : Int) ≤ (a.length : Int) + 1) = false := decide_eq_false hna
                have hq1 : (a.length : Int) + 1 ≤ (N : Int) := by omega
                have hq2 : (N : Int) ≤ (t.size : Int) := by omega
                have hpa : parseA t.data.toList = some (a, N) := by
                  rw [HPA.out, if_neg]
                  · rfl
                  · rintro (h | h | h | h | h)
                    · cases h
                    · exact h rfl
                    · exact h hit
                    · exact hnl h
                    · exact hna h
                have hu : (t.extract (a.length + 1) N).data.toList = seg t.data.toList (a.length + 1) N := by
                  rw [Lib.extract_data]; unfold seg; rw [List.drop_take]
                obtain ⟨u, hue⟩ : ∃ u, u = t.extract (a.length + 1) N := ⟨_, rfl⟩
                rw [← hue] at hu
                have hus : u.size ≤ 1073741824 := by rw [size_data, hu, seg_len (by rw [data_length]; omega)]; omega
                have H36b := fun W (hW : Tabs W) => cut_calls u ⟨#[61]⟩ W hW (by omega)
                have e61 : (⟨#[61]⟩ : ByteArray).data.toList = [61] := rfl
                rw [e61] at H36b
                have hvl := (cut_len u.data.toList 61).2
                obtain ⟨k, hk⟩ : ∃ k, k = (Lib.cut u.data.toList [61]).1 := ⟨_, rfl⟩
                obtain ⟨v, hv⟩ : ∃ v, v = (Lib.cut u.data.toList [61]).2.1 := ⟨_, rfl⟩
                obtain ⟨is2, his2⟩ : ∃ is2, is2 = (Lib.cut u.data.toList [61]).2.2 := ⟨_, rfl⟩
                have hpb : parseB u.data.toList = if is2 = false ∨ Lib.hasSuffix v [10] = false ∨ k = [] then none else some (str k, str (Lib.trimSuffix v [10])) := by rw [hk, hv, his2]; rfl
                rw [← hk, ← hv, ← his2] at H36b
                rw [← hv, data_length] at hvl
                have H38 := fun W => Tryz.strings_CutSuffix (str v) ⟨#[10]⟩ W (by rw [str_size]; omega)
                rw [data_str, show (⟨#[10]⟩ : ByteArray).data.toList = [10] from rfl] at H38
                obtain ⟨sf, hsf⟩ : ∃ sf, sf = Lib.hasSuffix v [10] := ⟨_, rfl⟩
                obtain ⟨v2, hv2⟩ : ∃ v2, v2 = str (Lib.trimSuffix v [10]) := ⟨_, rfl⟩
                have hv2' : (⟨(Lib.trimSuffix v [10]).toArray⟩ : ByteArray) = v2 := hv2.symm
                rw [hv2', ← hsf] at H38
                rw [← hsf, ← hv2] at hpb
                have hpe : parse1 t.data.toList = (parseB u.data.toList).map fun kv => (kv, N) := by unfold parse1; rw [hpa]; dsimp only; rw [hu]
                rw [hpb] at hpe
                have HPE := Aside0.mk hpe
                have H36b := Aside0.mk H36b
                have H38 := Aside0.mk H38
                have hsl : ∀ W, (Instr.slice 9 (.string t) (some (.int .i64 ((a.length : Int) + 1))) (some (.int .i64 (N : Int))) none).run Tryz.prog W = .ok (.string u) W := fun W => by
                  rw [hue]
                  have := run_slice_string (P := Tryz.prog) (w := W) 9 t .i64 .i64 ((a.length : Int) + 1) (N : Int) Tryz.underlying9 (by omega) (by omega) (by omega)
                  simpa using this
                have hd3 : decide (t.size < N) = false := decide_eq_false (by omega)
                have HUE := Aside0.mk hue
                clear hpe hpb hpa hu hue e61 hk hv his2 hsf hv2 hv2'
                cases is2 with
                | false =>
                  have HF := Aside0.mk (HFIN.out (by rw [HPE.out, if_pos (.inl rfl)]; rfl))
                  go_wp2_with (first | (go_at_call_of 36 (Value.string (ByteArray.mk #[32])); refine (H36.out _ T1).mono ?_; rintro e1 w1 ⟨rfl, hb1⟩; have B1 := below_then hB.out hB.out.size hb1) | (go_at_call 37; refine (H37.out _).mono ?_; rintro e2 w2 ⟨rfl, hb2⟩; have B2 := below_then B1 B1.size hb2; have T2 := HT.out.below B2) | (go_at_call 32; refine (H32.out _ T2).mono ?_; rintro e3 w3 ⟨rfl, hb3⟩; have B3 := below_then B2 B2.size hb3; have T3 := HT.out.below B3) | (go_at_call_of 36 (Value.string (ByteArray.mk #[61]));  refine (H36b.out _ T3).mono ?_; rintro e4 w4 ⟨rfl, hb4⟩; have B4 := below_then B3 B3.size hb4) | (go_at_call 38; refine (H38.out _).mono ?_; rintro e5 w5 ⟨rfl, rfl⟩))
                  go_ret2
                  exact ⟨.inl ⟨HF.out, rfl⟩, B4⟩
                | true =>
                  cases sf with
                  | false =>
                    have HF := Aside0.mk (HFIN.out (by rw [HPE.out, if_pos (.inr (.inl rfl))]; rfl))
                    go_wp2_with (first | (go_at_call_of 36 (Value.string (ByteArray.mk #[32])); refine (H36.out _ T1).mono ?_; rintro e1 w1 ⟨rfl, hb1⟩; have B1 := below_then hB.out hB.out.size hb1) | (go_at_call 37; refine (H37.out _).mono ?_; rintro e2 w2 ⟨rfl, hb2⟩; have B2 := below_then B1 B1.size hb2; have T2 := HT.out.below B2) | (go_at_call 32; refine (H32.out _ T2).mono ?_; rintro e3 w3 ⟨rfl, hb3⟩; have B3 := below_then B2 B2.size hb3; have T3 := HT.out.below B3) | (go_at_call_of 36 (Value.string (ByteArray.mk #[61]));  refine (H36b.out _ T3).mono ?_; rintro e4 w4 ⟨rfl, hb4⟩; have B4 := below_then B3 B3.size hb4) | (go_at_call 38; refine (H38.out _).mono ?_; rintro e5 w5 ⟨rfl, rfl⟩))
                    go_ret2
                    exact ⟨.inl ⟨HF.out, rfl⟩, B4⟩
                  | true =>
                    by_cases hk : k = []
                    · have HF := Aside0.mk (HFIN.out (by rw [HPE.out, if_pos (.inr (.inr hk))]; rfl))
                      have k0 : (str k).toList = [] := by rw [Lib.toList_data, hk]; rfl
                      have k1 : (str k).toList.isEmpty = true := by rw [k0]; rfl
                      clear hk
                      go_wp2_with (first | (go_at_call_of 36 (Value.string (ByteArray.mk #[32])); refine (H36.out _ T1).mono ?_; rintro e1 w1 ⟨rfl, hb1⟩; have B1 := below_then hB.out hB.out.size hb1) | (go_at_call 37; refine (H37.out _).mono ?_; rintro e2 w2 ⟨rfl, hb2⟩; have B2 := below_then B1 B1.size hb2; have T2 := HT.out.below B2) | (go_at_call 32; refine (H32.out _ T2).mono ?_; rintro e3 w3 ⟨rfl, hb3⟩; have B3 := below_then B2 B2.size hb3; have T3 := HT.out.below B3) | (go_at_call_of 36 (Value.string (ByteArray.mk #[61]));  refine (H36b.out _ T3).mono ?_; rintro e4 w4 ⟨rfl, hb4⟩; have B4 := below_then B3 B3.size hb4) | (go_at_call 38; refine (H38.out _).mono ?_; rintro e5 w5 ⟨rfl, rfl⟩))
                      go_ret2
                      exact ⟨.inl ⟨HF.out, rfl⟩, B4⟩
                    · have k0 : (str k).toList ≠ [] := by rw [Lib.toList_data]; exact hk
                      have k1 : (str k).toList.isEmpty = false := by rw [Lib.toList_data]; cases k with | nil => exact absurd rfl hk | cons _ _ => rfl
                      have HP : Aside0 (parse1 t.data.toList = some ((str k, v2), N)) := ⟨by
                        rw [HPE.out, if_neg]
                        · rfl
                        · rintro (h | h | h)
                          · cases h
                          · cases h
                          · exact hk h⟩
                      clear hk
                      go_wp2_with (first | (go_at_call_of 36 (Value.string (ByteArray.mk #[32])); refine (H36.out _ T1).mono ?_; rintro e1 w1 ⟨rfl, hb1⟩; have B1 := below_then hB.out hB.out.size hb1) | (go_at_call 37; refine (H37.out _).mono ?_; rintro e2 w2 ⟨rfl, hb2⟩; have B2 := below_then B1 B1.size hb2; have T2 := HT.out.below B2) | (go_at_call 32; refine (H32.out _ T2).mono ?_; rintro e3 w3 ⟨rfl, hb3⟩; have B3 := below_then B2 B2.size hb3; have T3 := HT.out.below B3) | (go_at_call_of 36 (Value.string (ByteArray.mk #[61]));  refine (H36b.out _ T3).mono ?_; rintro e4 w4 ⟨rfl, hb4⟩; have B4 := below_then B3 B3.size hb4) | (go_at_call 38; refine (H38.out _).mono ?_; rintro e5 w5 ⟨rfl, rfl⟩) | ((with_reducible refine gate_builtin (b := .append) (xs := #[.tmp 77, .tmp 81]) rfl ?_); at_builtin; refine Kd.R_append k39 (w0 := w) w.heap.size rfl (.tmp 77) (.tmp 81) 34 39 (.agg #[.string ⟨#[]⟩, .string ⟨#[]⟩]) 32 rfl under34 info39 rfl (by decide) (by omega) u4 acc (str k, v2) [.string (str k), .string v2] (fun _ => True) (fun _ => False) rfl rfl ?aP (fun _ hk => hk.elim) ?aF ?aO ?aB ?aS ?aL ?_; (case aP => exact k39_mkM _ _ _ (str k, v2)); (case aB => exact B4); (case aF => exact (fun _ _ => trivial)); (case aO => exact Kd.R_below (Kd.R_below (Kd.R_below (Kd.R_below hR.out hb1) hb2) hb3) hb4); (case aS => exact B4.size); (case aL => omega); intro v7 w7 ho hb7 hg hat; have hO7 := Aside0.mk ho; clear ho hg hat))
                      go_roundw
                      case rel => exact ⟨t.extract N t.size, acc ++ [(str k, v2)], rfl, ⟨by have := hA.out.step HP.out; rw [Lib.extract_data, List.take_of_length_le (by rw [List.length_drop, data_length]; omega)]; exact this⟩, hO7, ⟨hb7⟩⟩
                      case measure => simp [ByteArray.size_extract]; omega
          · have hit2 : ((str (Lib.itoa n)).toList != (str a).toList) = true := by
              rw [bne_iff_ne]
              intro h
              exact hit (str_inj (toList_inj' h))
            have hit3 : ((str (Lib.itoa n)).toList == (str a).toList) = false := by
              rw [beq_eq_false_iff_ne]
              intro h
              exact hit (str_inj (toList_inj' h))
            have hit4 : ¬ (str (Lib.itoa n)).toList = (str a).toList := fun h => hit (str_inj (toList_inj' h))
            have HF := HFIN.out (HP1.out (by rw [HPA.out, if_pos (.inr (.inr (.inl hit)))]))
            have HF := Aside0.mk HF
            clear hit
            go_wp2_with (first | (go_at_call 36; refine (H36.out _ T1).mono ?_; rintro e1 w1 ⟨rfl, hb1⟩; have B1 := below_then hB.out hB.out.size hb1) | (go_at_call 37; refine (H37.out _).mono ?_; rintro e2 w2 ⟨rfl, hb2⟩; have B2 := below_then B1 B1.size hb2; have T2 := HT.out.below B2) | (go_at_call 32; refine (H32.out _ T2).mono ?_; rintro e3 w3 ⟨rfl, hb3⟩; have B3 := below_then B2 B2.size hb3))
            go_ret2
            exact ⟨.inl ⟨HF.out, rfl⟩, B3⟩
        · have e1 : (e != 0) = true := by rw [bne_iff_ne]; exact e0
          have HF := HFIN.out (HP1.out (by rw [HPA.out, if_pos (.inr (.inl e0))]))
          have HF := Aside0.mk HF
          clear e0
          go_wp2_with (first | (go_at_call 36; refine (H36.out _ T1).mono ?_; rintro e1 w1 ⟨rfl, hb1⟩; have B1 := below_then hB.out hB.out.size hb1) | (go_at_call 37; refine (H37.out _).mono ?_; rintro e2 w2 ⟨rfl, hb2⟩; have B2 := below_then B1 B1.size hb2; have T2 := HT.out.below B2) | (go_at_call 32; refine (H32.out _ T2).mono ?_; rintro e3 w3 ⟨rfl, hb3⟩; have B3 := below_then B2 B2.size hb3))
          go_ret2
          exact ⟨.inl ⟨HF.out, rfl⟩, B2⟩
end Go.Proofs.YtkmcbpkciakmeaaGreatDoor.PA
