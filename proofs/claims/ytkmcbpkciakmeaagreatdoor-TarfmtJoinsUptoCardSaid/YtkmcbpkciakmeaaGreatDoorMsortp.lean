/- Sorting, in plain Lean. -/
import Derived.Sort.LotA

/- Sorting, in plain Lean: what keeps the order of equals, rotations of two blocks, merges; there is one sorted row that keeps the order of equals. -/
set_option linter.unusedVariables false
set_option linter.unusedSimpArgs false
namespace Go.Proofs.YtkmcbpkciakmeaaGreatDoor.PA
open Go.Sort
variable {α : Type} {lt : α → α → Bool}

/-- Neither is less. -/
def eqv (lt : α → α → Bool) (x y : α) : Bool := !lt x y && !lt y x
/-- Equals stand in the same order. -/
def Keeps (lt : α → α → Bool) (l l' : List α) : Prop := ∀ x, l'.filter (eqv lt x) = l.filter (eqv lt x)
theorem Keeps.refl (l : List α) : Keeps lt l l := fun _ => rfl
theorem Keeps.trans {l m n : List α} (h : Keeps lt l m) (k : Keeps lt m n) : Keeps lt l n := fun x => (k x).trans (h x)
theorem Keeps.app {l l' m m' : List α} (h : Keeps lt l l') (k : Keeps lt m m') : Keeps lt (l ++ m) (l' ++ m') := fun x => by rw [List.filter_append, List.filter_append, h x, k x]
theorem eqv_iff {x y : α} : eqv lt x y = true ↔ lt x y = false ∧ lt y x = false := by simp [eqv]

theorem filter_none {p : α → Bool} {l : List α} (h : ∀ y ∈ l, p y = false) : l.filter p = [] := List.filter_eq_nil_iff.2 fun y hy => by rw [h y hy]; simp

/-- Two blocks change places: all of the second are less than all of the first. -/
theorem keeps_swap (hS : SWO lt) (u v : List α) (h : ∀ x ∈ u, ∀ y ∈ v, lt y x = true) : Keeps lt (u ++ v) (v ++ u) := by
  intro z
  rw [List.filter_append, List.filter_append]
  by_cases hu : ∀ y ∈ u, eqv lt z y = false
  · rw [filter_none hu]; simp
  · have hv : ∀ y ∈ v, eqv lt z y = false := by
      intro y hy
      cases hc : eqv lt z y with
      | false => rfl
      | true =>
        exfalso; apply hu
        intro x hx
        cases hd : eqv lt z x with
        | false => rfl
        | true =>
          have h1 := eqv_iff.1 hc
          have h2 := eqv_iff.1 hd
          have := hS.ntrans y z x h1.2 h2.1
          rw [h x hx y hy] at this
          cases this
    rw [filter_none hv]; simp

/-- There is one sorted row that keeps the order of equals. -/
theorem sorted_one (hS : SWO lt) : ∀ (l l' : List α), l.Pairwise (fun x y => lt y x = false) → l'.Pairwise (fun x y => lt y x = false) → Keeps lt l l' → l' = l
  | [], [], _, _, _ => rfl
  | [], y :: t', _, _, h => by
    have := h y
    rw [List.filter_cons_of_pos (by rw [eqv_iff]; exact ⟨hS.irrefl y, hS.irrefl y⟩)] at this
    cases this
  | x :: t, [], _, _, h => by
    have := h x
    rw [List.filter_cons_of_pos (by rw [eqv_iff]; exact ⟨hS.irrefl x, hS.irrefl x⟩)] at this
    cases this
  | x :: t, y :: t', h1, h2, h => by
    have exx : eqv lt x x = true := by rw [eqv_iff]; exact ⟨hS.irrefl x, hS.irrefl x⟩
    have eyy : eqv lt y y = true := by rw [eqv_iff]; exact ⟨hS.irrefl y, hS.irrefl y⟩
    have hx : x ∈ y :: t' := by
      have h3 : x ∈ (x :: t).filter (eqv lt x) := List.mem_filter.2 ⟨List.mem_cons_self .., exx⟩
      rw [← h x] at h3
      exact (List.mem_filter.1 h3).1
    have hy : y ∈ x :: t := by
      have h3 : y ∈ (y :: t').filter (eqv lt y) := List.mem_filter.2 ⟨List.mem_cons_self .., eyy⟩
      rw [h y] at h3
      exact (List.mem_filter.1 h3).1
    have a1 : lt x y = false := by
      rcases List.mem_cons.1 hx with rfl | hx
      · exact hS.irrefl _
      · exact (List.pairwise_cons.1 h2).1 x hx
    have a2 : lt y x = false := by
      rcases List.mem_cons.1 hy with rfl | hy
      · exact hS.irrefl _
      · exact (List.pairwise_cons.1 h1).1 y hy
    have exy : eqv lt x y = true := by rw [eqv_iff]; exact ⟨a1, a2⟩
    have hxy : y = x := by
      have := h x
      rw [List.filter_cons_of_pos exx, List.filter_cons_of_pos exy] at this
      exact (List.cons.inj this).1
    subst hxy
    refine congrArg _ (sorted_one hS t t' (List.pairwise_cons.1 h1).2 (List.pairwise_cons.1 h2).2 fun z => ?_)
    have := h z
    cases hz : eqv lt z y with
    | true => rw [List.filter_cons_of_pos hz, List.filter_cons_of_pos hz] at this; exact (List.cons.inj this).2
    | false => rw [List.filter_cons_of_neg (by rw [hz]; simp), List.filter_cons_of_neg (by rw [hz]; simp)] at this; exact this

/-- x < y and y is not above z: x < z. -/
theorem SWO.lt_le (hS : SWO lt) {x y z : α} (h1 : lt x y = true) (h2 : lt z y = false) : lt x z = true := by
  cases h : lt x z with
  | true => rfl
  | false => rw [hS.ntrans x z y h h2] at h1; cases h1
theorem SWO.le_lt (hS : SWO lt) {x y z : α} (h1 : lt y x = false) (h2 : lt y z = true) : lt x z = true := by
  cases h : lt x z with
  | true => rfl
  | false => rw [hS.ntrans y x z h1 h] at h2; cases h2


/-! rotations -/
variable [Inhabited α]
def rotI (a m b x : Nat) : Nat := if a ≤ x ∧ x < a + (b - m) then x + (m - a) else if a + (b - m) ≤ x ∧ x < b then x - (b - m) else x
def swI (a b n x : Nat) : Nat := if a ≤ x ∧ x < a + n then x - a + b else if b ≤ x ∧ x < b + n then x - b + a else x
def IsRot (d d' : Array α) (a m b : Nat) : Prop := d'.size = d.size ∧ ∀ x, d'[x]! = d[rotI a m b x]!
def IsSw (d d' : Array α) (a b n : Nat) : Prop := d'.size = d.size ∧ ∀ x, d'[x]! = d[swI a b n x]!
/-- What is left of a rotation, in its loop. -/
def RotRem (d dk : Array α) (a m b i j : Nat) : Prop := dk.size = d.size ∧ ∀ x, dk[rotI (m - i) m (m + j) x]! = d[rotI a m b x]!

theorem IsSw.zero (d : Array α) (a b : Nat) : IsSw d d a b 0 := ⟨rfl, fun x => by rw [swI, if_neg (by omega), if_neg (by omega)]⟩
theorem IsSw.step {d dk : Array α} {a b n : Nat} (h : IsSw d dk a b n) (hd : a + n < b) (hb : b + n < d.size) : IsSw d (swp dk (a + n) (b + n)) a b (n + 1) := by
  refine ⟨by rw [swp_size, h.1], fun x => ?_⟩
  rw [swp_get dk (by rw [h.1]; omega) (by rw [h.1]; omega)]
  by_cases h1 : x = b + n
  · rw [if_pos h1, h.2]; congr 1; unfold swI
    repeat' split
    all_goals omega
  · rw [if_neg h1]
    by_cases h2 : x = a + n
    · rw [if_pos h2, h.2]; congr 1; unfold swI
      repeat' split
      all_goals omega
    · rw [if_neg h2, h.2]; congr 1; unfold swI
      repeat' split
      all_goals omega

theorem RotRem.start (d : Array α) {a m b : Nat} (ham : a ≤ m) (hmb : m ≤ b) : RotRem d d a m b (m - a) (b - m) := ⟨rfl, fun x => by rw [show m - (m - a) = a by omega, show m + (b - m) = b by omega]⟩
theorem rot_great {a m i j x : Nat} (h : j < i) (hi : i ≤ m) : swI (m - i) m j (rotI (m - (i - j)) m (m + j) x) = rotI (m - i) m (m + j) x := by
  unfold rotI swI
  repeat' split
  all_goals omega
theorem rot_small {m i j x : Nat} (h : i < j) (hi : i ≤ m) : swI (m - i) (m + j - i) i (rotI (m - i) m (m + (j - i)) x) = rotI (m - i) m (m + j) x := by
  unfold rotI swI
  repeat' split
  all_goals omega
theorem rot_same {m i x : Nat} (hi : i ≤ m) : swI (m - i) m i x = rotI (m - i) m (m + i) x := by
  unfold rotI swI
  repeat' split
  all_goals omega
theorem RotRem.great {d dk d' : Array α} {a m b i j : Nat} (h : RotRem d dk a m b i j) (hij : j < i) (hi : i ≤ m) (hs : IsSw dk d' (m - i) m j) : RotRem d d' a m b (i - j) j :=
  ⟨hs.1.trans h.1, fun x => by rw [hs.2, rot_great (a := a) hij hi]; exact h.2 x⟩
theorem RotRem.small {d dk d' : Array α} {a m b i j : Nat} (h : RotRem d dk a m b i j) (hij : i < j) (hi : i ≤ m) (hs : IsSw dk d' (m - i) (m + j - i) i) : RotRem d d' a m b i (j - i) :=
  ⟨hs.1.trans h.1, fun x => by rw [hs.2, rot_small hij hi]; exact h.2 x⟩
theorem RotRem.fin {d dk d' : Array α} {a m b i : Nat} (h : RotRem d dk a m b i i) (hi : i ≤ m) (hs : IsSw dk d' (m - i) m i) : IsRot d d' a m b :=
  ⟨hs.1.trans h.1, fun x => by rw [hs.2, rot_same hi]; exact h.2 x⟩

/-! a row as a list -/
def seg' (d : Array α) (a n : Nat) : List α := (List.range' a n).map (fun i => d[i]!)
theorem toList_seg (d : Array α) : d.toList = seg' d 0 d.size := by
  have := extract_toList d 0 d.size (Nat.le_refl _)
  rw [Array.extract_size] at this
  simpa [seg'] using this
theorem seg_app (d : Array α) (a n k : Nat) : seg' d a (n + k) = seg' d a n ++ seg' d (a + n) k := by
  unfold seg'
  rw [← List.map_append]
  congr 1
  have := List.range'_append (s := a) (m := n) (n := k) (step := 1)
  rw [Nat.one_mul] at this
  exact this.symm
theorem seg_congr {d d' : Array α} {a a' n : Nat} (h : ∀ i, i < n → d'[a' + i]! = d[a + i]!) : seg' d' a' n = seg' d a n := by
  unfold seg'
  apply List.ext_getElem
  · simp
  · intro k h1 h2
    simp only [List.getElem_map, List.getElem_range', Nat.one_mul]
    exact h k (by simpa using h1)
theorem mem_seg {d : Array α} {a n : Nat} {x : α} : x ∈ seg' d a n ↔ ∃ i, a ≤ i ∧ i < a + n ∧ x = d[i]! := by
  unfold seg'
  simp only [List.mem_map, List.mem_range'_1]
  constructor
  · rintro ⟨i, hi, rfl⟩; exact ⟨i, hi.1, hi.2, rfl⟩
  · rintro ⟨i, h1, h2, rfl⟩; exact ⟨i, ⟨h1, h2⟩, rfl⟩

theorem keeps_rot (hS : SWO lt) {d d' : Array α} {a m b : Nat} (ham : a ≤ m) (hmb : m ≤ b) (hb : b ≤ d.size) (h : IsRot d d' a m b)
    (hl : ∀ i j, a ≤ i → i < m → m ≤ j → j < b → lt d[j]! d[i]! = true) : Keeps lt d.toList d'.toList := by
  rw [toList_seg d, toList_seg d', h.1]
  have e1 : seg' d 0 d.size = seg' d 0 a ++ ((seg' d a (m - a) ++ seg' d m (b - m)) ++ seg' d b (d.size - b)) := by
    conv => lhs; rw [show d.size = a + ((m - a) + (b - m) + (d.size - b)) by omega]
    rw [seg_app, seg_app, seg_app, show 0 + a = a by omega, show a + (m - a) = m by omega, show a + (m - a + (b - m)) = b by omega]
  have e2 : seg' d' 0 d.size = seg' d' 0 a ++ ((seg' d' a (b - m) ++ seg' d' (a + (b - m)) (m - a)) ++ seg' d' b (d.size - b)) := by
    conv => lhs; rw [show d.size = a + ((b - m) + (m - a) + (d.size - b)) by omega]
    rw [seg_app, seg_app, seg_app, show 0 + a = a by omega, show a + (b - m + (m - a)) = b by omega]
  rw [e1, e2]
  have f1 : seg' d' 0 a = seg' d 0 a := seg_congr fun i hi => by rw [h.2]; congr 1; unfold rotI; rw [if_neg (by omega), if_neg (by omega)]
  have f2 : seg' d' a (b - m) = seg' d m (b - m) := seg_congr fun i hi => by rw [h.2]; congr 1; unfold rotI; rw [if_pos (by omega)]; omega
  have f3 : seg' d' (a + (b - m)) (m - a) = seg' d a (m - a) := seg_congr fun i hi => by rw [h.2]; congr 1; unfold rotI; rw [if_neg (by omega), if_pos (by omega)]; omega
  have f4 : seg' d' b (d.size - b) = seg' d b (d.size - b) := seg_congr fun i hi => by rw [h.2]; congr 1; unfold rotI; rw [if_neg (by omega), if_neg (by omega)]
  rw [f1, f2, f3, f4]
  refine (Keeps.refl _).app ((keeps_swap hS _ _ ?_).app (Keeps.refl _))
  intro x hx y hy
  obtain ⟨i, h1, h2, rfl⟩ := mem_seg.1 hx
  obtain ⟨j, h3, h4, rfl⟩ := mem_seg.1 hy
  exact hl i j h1 (by omega) h3 (by omega)

/-! merges -/
/-- The row between a and b is sorted, out of what it held; equals keep their order; all else stands. -/
structure Mv (lt : α → α → Bool) (a b : Nat) (d d' : Array α) : Prop where
  size : d'.size = d.size
  out : ∀ i, i < a ∨ b ≤ i → d'[i]! = d[i]!
  from_ : ∀ i, a ≤ i → i < b → ∃ j, a ≤ j ∧ j < b ∧ d'[i]! = d[j]!
  sorted : SortedIn lt a b d'
  keeps : Keeps lt d.toList d'.toList

theorem Mv.of_sorted {a b : Nat} {d : Array α} (h : SortedIn lt a b d) : Mv lt a b d d := ⟨rfl, fun _ _ => rfl, fun i h1 h2 => ⟨i, h1, h2, rfl⟩, h, Keeps.refl _⟩

/-- Where symMerge parts its row. -/
structure SymAt (lt : α → α → Bool) (d : Array α) (a m b mid s e : Nat) : Prop where
  mid1 : a < mid
  mid2 : mid < b
  sum : s + e = mid + m
  as : a ≤ s
  sm : s ≤ m
  me : m ≤ e
  eb : e ≤ b
  smid : s ≤ mid
  ge : a < s → e < b → lt d[e]! d[s - 1]! = false
  lt_ : s < m → m < e → lt d[e - 1]! d[s]! = true

theorem SortedIn.le (hS : SWO lt) {a b : Nat} {d : Array α} (h : SortedIn lt a b d) {i j : Nat} (h1 : a ≤ i) (h2 : i ≤ j) (h3 : j < b) : lt d[j]! d[i]! = false := by
  rcases Nat.eq_or_lt_of_le h2 with rfl | h4
  · exact hS.irrefl _
  · exact h i j h1 h4 h3

theorem SymAt.lts (hS : SWO lt) {d : Array α} {a m b mid s e : Nat} (p : SymAt lt d a m b mid s e) (h1 : SortedIn lt a m d) (h2 : SortedIn lt m b d) : ∀ i j, s ≤ i → i < m → m ≤ j → j < e → lt d[j]! d[i]! = true := by
  intro i j h3 h4 h5 h6
  have := p.as; have := p.eb
  have q := p.lt_ (by omega) (by omega)
  -- d[j] ≤ d[e-1] < d[s] ≤ d[i]
  have q1 := SortedIn.le hS h2 (i := j) (j := e - 1) (by omega) (by omega) (by omega)
  have q2 := SortedIn.le hS h1 (i := s) (j := i) (by omega) (by omega) (by omega)
  exact SWO.lt_le hS (SWO.le_lt hS q1 q) q2

theorem SymAt.keeps (hS : SWO lt) {d d1 : Array α} {a m b mid s e : Nat} (p : SymAt lt d a m b mid s e) (hb : b ≤ d.size) (h1 : SortedIn lt a m d) (h2 : SortedIn lt m b d) (hr : IsRot d d1 s m e) : Keeps lt d.toList d1.toList := by
  have := p.eb
  exact keeps_rot hS p.sm p.me (by omega) hr (p.lts hS h1 h2)

/-- Behind the rotation: both halves are of two sorted blocks; none of the right half is less than one of the left half. -/
theorem SymAt.halves (hS : SWO lt) {d d1 : Array α} {a m b mid s e : Nat} (p : SymAt lt d a m b mid s e) (h1 : SortedIn lt a m d) (h2 : SortedIn lt m b d) (hr : IsRot d d1 s m e) :
    SortedIn lt a s d1 ∧ SortedIn lt s mid d1 ∧ SortedIn lt mid e d1 ∧ SortedIn lt e b d1 ∧ ∀ i j, a ≤ i → i < mid → mid ≤ j → j < b → lt d1[j]! d1[i]! = false := by
  obtain ⟨m1, m2, hsum, has, hsm, hme, heb, hsmid, hge, hlt⟩ := p
  have r0 : ∀ x, x < s → d1[x]! = d[x]! := fun x hx => by rw [hr.2]; congr 1; unfold rotI; rw [if_neg (by omega), if_neg (by omega)]
  have r1 : ∀ x, s ≤ x → x < mid → d1[x]! = d[x + (m - s)]! := fun x hx hy => by rw [hr.2]; congr 1; unfold rotI; rw [if_pos (by omega)]
  have r2 : ∀ x, mid ≤ x → x < e → d1[x]! = d[x - (e - m)]! := fun x hx hy => by rw [hr.2]; congr 1; unfold rotI; rw [if_neg (by omega), if_pos (by omega)]
  have r3 : ∀ x, e ≤ x → d1[x]! = d[x]! := fun x hx => by rw [hr.2]; congr 1; unfold rotI; rw [if_neg (by omega), if_neg (by omega)]
  have L : ∀ i j, s ≤ i → i < m → m ≤ j → j < e → lt d[j]! d[i]! = true := SymAt.lts hS ⟨m1, m2, hsum, has, hsm, hme, heb, hsmid, hge, hlt⟩ h1 h2
  refine ⟨?_, ?_, ?_, ?_, ?_⟩
  · intro i j x1 x2 x3; rw [r0 i (by omega), r0 j x3]; exact h1 i j x1 x2 (by omega)
  · intro i j x1 x2 x3; rw [r1 i x1 (by omega), r1 j (by omega) x3]; exact h2 _ _ (by omega) (by omega) (by omega)
  · intro i j x1 x2 x3; rw [r2 i x1 (by omega), r2 j (by omega) x3]; exact h1 _ _ (by omega) (by omega) (by omega)
  · intro i j x1 x2 x3; rw [r3 i x1, r3 j (by omega)]; exact h2 i j (by omega) x2 x3
  · intro i j x1 x2 x3 x4
    by_cases c1 : i < s
    · rw [r0 i c1]
      by_cases c2 : j < e
      · rw [r2 j x3 c2]; exact SortedIn.le hS h1 (by omega) (by omega) (by omega)
      · rw [r3 j (by omega)]
        have q1 := SortedIn.le hS h1 (i := i) (j := s - 1) x1 (by omega) (by omega)
        have q2 := hge (by omega) (by omega)
        have q3 := SortedIn.le hS h2 (i := e) (j := j) (by omega) (by omega) x4
        exact hS.ntrans _ _ _ (hS.ntrans _ _ _ q3 q2) q1
    · rw [r1 i (by omega) x2]
      by_cases c2 : j < e
      · rw [r2 j x3 c2]
        have := L (j - (e - m)) (i + (m - s)) (by omega) (by omega) (by omega) (by omega)
        exact hS.asymmA this
      · rw [r3 j (by omega)]; exact SortedIn.le hS h2 (by omega) (by omega) x4

/-- The merge, whole. -/
theorem SymAt.merged (hS : SWO lt) {d d1 d2 d3 : Array α} {a m b mid s e : Nat} (p : SymAt lt d a m b mid s e) (hb : b ≤ d.size) (h1 : SortedIn lt a m d) (h2 : SortedIn lt m b d) (hr : IsRot d d1 s m e)
    (hL : Mv lt a mid d1 d2) (hR : Mv lt mid b d2 d3) : Mv lt a b d d3 := by
  obtain ⟨_, _, _, _, hc⟩ := p.halves hS h1 h2 hr
  have k1 := p.keeps hS hb h1 h2 hr
  have m1 := p.mid1; have m2 := p.mid2; have m3 := p.as; have m4 := p.eb; have m5 := p.sm; have m6 := p.me; have m7 := p.sum
  -- where the elements of d1 come from
  have f1 : ∀ i, a ≤ i → i < b → ∃ j, a ≤ j ∧ j < b ∧ d1[i]! = d[j]! := fun i x1 x2 => by
    rw [hr.2]
    refine ⟨_, ?_, ?_, rfl⟩ <;> (unfold rotI; repeat' split) <;> omega
  have g2 : ∀ i, a ≤ i → i < mid → ∃ j, a ≤ j ∧ j < mid ∧ d3[i]! = d1[j]! := fun i x1 x2 => by
    rw [hR.out i (.inl x2)]; exact hL.from_ i x1 x2
  have g3 : ∀ i, mid ≤ i → i < b → ∃ j, mid ≤ j ∧ j < b ∧ d3[i]! = d1[j]! := fun i x1 x2 => by
    obtain ⟨j, y1, y2, y3⟩ := hR.from_ i x1 x2
    exact ⟨j, y1, y2, y3.trans (hL.out j (.inr y1))⟩
  refine ⟨hR.size.trans (hL.size.trans hr.1), ?_, ?_, ?_, (k1.trans hL.keeps).trans hR.keeps⟩
  · intro i hi
    rw [hR.out i (by omega), hL.out i (by omega), hr.2]; congr 1; unfold rotI; rw [if_neg (by omega), if_neg (by omega)]
  · intro i x1 x2
    by_cases c : i < mid
    · obtain ⟨j, y1, y2, y3⟩ := g2 i x1 c
      obtain ⟨k, z1, z2, z3⟩ := f1 j y1 (by omega)
      exact ⟨k, z1, z2, y3.trans z3⟩
    · obtain ⟨j, y1, y2, y3⟩ := g3 i (by omega) x2
      obtain ⟨k, z1, z2, z3⟩ := f1 j (by omega) y2
      exact ⟨k, z1, z2, y3.trans z3⟩
  · intro i j x1 x2 x3
    by_cases c : j < mid
    · rw [hR.out i (.inl (by omega)), hR.out j (.inl c)]; exact hL.sorted i j x1 x2 c
    · by_cases c2 : i < mid
      · obtain ⟨i', y1, y2, y3⟩ := g2 i x1 c2
        obtain ⟨j', z1, z2, z3⟩ := g3 j (by omega) x3
        rw [y3, z3]; exact hc i' j' y1 y2 z1 z2
      · exact hR.sorted i j (by omega) x2 x3

/-- One element ahead of a sorted block: it is put behind all that are less. -/
theorem first_in (hS : SWO lt) {d d1 : Array α} {a b i : Nat} (hb : b ≤ d.size) (h2 : SortedIn lt (a + 1) b d) (hi1 : a + 1 ≤ i) (hi2 : i ≤ b) (hlt : ∀ j, a + 1 ≤ j → j < i → lt d[j]! d[a]! = true) (hge : ∀ j, i ≤ j → j < b → lt d[j]! d[a]! = false) (hr : IsRot d d1 a (a + 1) i) : Mv lt a b d d1 := by
  have r1 : ∀ x, a ≤ x → x < i - 1 → d1[x]! = d[x + 1]! := fun x hx hy => by rw [hr.2]; congr 1; unfold rotI; rw [if_pos (by omega)]; omega
  have r2 : d1[i - 1]! = d[a]! := by rw [hr.2]; congr 1; unfold rotI; rw [if_neg (by omega), if_pos (by omega)]; omega
  have r3 : ∀ x, i ≤ x → d1[x]! = d[x]! := fun x hx => by rw [hr.2]; congr 1; unfold rotI; rw [if_neg (by omega), if_neg (by omega)]
  refine ⟨hr.1, ?_, ?_, ?_, keeps_rot hS (by omega) (by omega) (by omega) hr fun x y h3 h4 h5 h6 => ?_⟩
  · intro x hx; rw [hr.2]; congr 1; unfold rotI; rw [if_neg (by omega), if_neg (by omega)]
  · intro x h3 h4; rw [hr.2]; refine ⟨_, ?_, ?_, rfl⟩ <;> (unfold rotI; repeat' split) <;> omega
  · intro x y h3 h4 h5
    by_cases c1 : y < i - 1
    · rw [r1 x h3 (by omega), r1 y (by omega) c1]; exact h2 _ _ (by omega) (by omega) (by omega)
    · by_cases c2 : y = i - 1
      · subst c2; rw [r2, r1 x h3 h4]; exact hS.asymmA (hlt _ (by omega) (by omega))
      · rw [r3 y (by omega)]
        by_cases c3 : x < i - 1
        · rw [r1 x h3 c3]; exact h2 _ _ (by omega) (by omega) h5
        · by_cases c4 : x = i - 1
          · subst c4; rw [r2]; exact hge y (by omega) h5
          · rw [r3 x (by omega)]; exact h2 _ _ (by omega) h4 h5
  · obtain rfl : x = a := by omega
    exact hlt y h5 h6

/-- One element behind a sorted block: it is put ahead of all that are above it. -/
theorem last_in (hS : SWO lt) {d d1 : Array α} {a m i : Nat} (hb : m + 1 ≤ d.size) (h1 : SortedIn lt a m d) (hi1 : a ≤ i) (hi2 : i ≤ m) (hge : ∀ j, a ≤ j → j < i → lt d[m]! d[j]! = false) (hlt : ∀ j, i ≤ j → j < m → lt d[m]! d[j]! = true) (hr : IsRot d d1 i m (m + 1)) : Mv lt a (m + 1) d d1 := by
  have r0 : ∀ x, x < i → d1[x]! = d[x]! := fun x hx => by rw [hr.2]; congr 1; unfold rotI; rw [if_neg (by omega), if_neg (by omega)]
  have r1 : d1[i]! = d[m]! := by rw [hr.2]; congr 1; unfold rotI; rw [if_pos (by omega)]; omega
  have r2 : ∀ x, i < x → x ≤ m → d1[x]! = d[x - 1]! := fun x hx hy => by rw [hr.2]; congr 1; unfold rotI; rw [if_neg (by omega), if_pos (by omega)]; omega
  refine ⟨hr.1, ?_, ?_, ?_, keeps_rot hS (by omega) (by omega) (by omega) hr fun x y h3 h4 h5 h6 => ?_⟩
  · intro x hx; rw [hr.2]; congr 1; unfold rotI; rw [if_neg (by omega), if_neg (by omega)]
  · intro x h3 h4; rw [hr.2]; refine ⟨_, ?_, ?_, rfl⟩ <;> (unfold rotI; repeat' split) <;> omega
  · intro x y h3 h4 h5
    by_cases c1 : y < i
    · rw [r0 x (by omega), r0 y c1]; exact h1 _ _ h3 h4 (by omega)
    · by_cases c2 : y = i
      · subst c2; rw [r1, r0 x h4]; exact hge x h3 h4
      · rw [r2 y (by omega) (by omega)]
        by_cases c3 : x < i
        · rw [r0 x c3]; exact h1 _ _ h3 (by omega) (by omega)
        · by_cases c4 : x = i
          · subst c4; rw [r1]; exact hS.asymmA (hlt _ (by omega) (by omega))
          · rw [r2 x (by omega) (by omega)]; exact h1 _ _ (by omega) (by omega) (by omega)
  · obtain rfl : y = m := by omega
    exact hlt x h3 h4
end Go.Proofs.YtkmcbpkciakmeaaGreatDoor.PA

/- Sorting, in plain Lean: the insertion sort keeps the order of equals; runs that are merged; an element put in its place. -/
set_option linter.unusedVariables false
set_option linter.unusedSimpArgs false
namespace Go.Proofs.YtkmcbpkciakmeaaGreatDoor.PA
open Go.Sort
variable {α : Type} [Inhabited α] {lt : α → α → Bool}

theorem IsRot.one (d : Array α) (a m : Nat) : IsRot d d a m m := ⟨rfl, fun x => by congr 1; unfold rotI; (repeat' split) <;> omega⟩
theorem IsRot.none_ (d : Array α) (m b : Nat) : IsRot d d m m b := ⟨rfl, fun x => by congr 1; unfold rotI; (repeat' split) <;> omega⟩
/-- The first one moves one place on. -/
theorem IsRot.up {d dk : Array α} {a k : Nat} (h : IsRot d dk a (a + 1) (k + 1)) (hk : a ≤ k) (hs : k + 1 < d.size) : IsRot d (swp dk k (k + 1)) a (a + 1) (k + 2) := by
  refine ⟨by rw [swp_size, h.1], fun x => ?_⟩
  rw [swp_get dk (by rw [h.1]; omega) (by rw [h.1]; omega)]
  by_cases h1 : x = k + 1
  · rw [if_pos h1, h.2]; congr 1; unfold rotI
    repeat' split
    all_goals omega
  · rw [if_neg h1]
    by_cases h2 : x = k
    · rw [if_pos h2, h.2]; congr 1; unfold rotI
      repeat' split
      all_goals omega
    · rw [if_neg h2, h.2]; congr 1; unfold rotI
      repeat' split
      all_goals omega
/-- The last one moves one place back. -/
theorem IsRot.down {d dk : Array α} {m k : Nat} (h : IsRot d dk (k + 1) m (m + 1)) (hk : k < m) (hs : m < d.size) : IsRot d (swp dk (k + 1) k) k m (m + 1) := by
  refine ⟨by rw [swp_size, h.1], fun x => ?_⟩
  rw [swp_get dk (by rw [h.1]; omega) (by rw [h.1]; omega)]
  by_cases h1 : x = k
  · rw [if_pos h1, h.2]; congr 1; unfold rotI
    repeat' split
    all_goals omega
  · rw [if_neg h1]
    by_cases h2 : x = k + 1
    · rw [if_pos h2, h.2]; congr 1; unfold rotI
      repeat' split
      all_goals omega
    · rw [if_neg h2, h.2]; congr 1; unfold rotI
      repeat' split
      all_goals omega

theorem keeps_swp (hS : SWO lt) {d : Array α} {j : Nat} (hs : j + 1 < d.size) (h : lt d[j + 1]! d[j]! = true) : Keeps lt d.toList (swp d (j + 1) j).toList := by
  have hr : IsRot d (swp d (j + 1) j) j (j + 1) (j + 2) := IsRot.down (IsRot.none_ d (j + 1) (j + 2)) (by omega) hs
  refine keeps_rot hS (by omega) (by omega) (by omega) hr fun x y h1 h2 h3 h4 => ?_
  obtain rfl : x = j := by omega
  obtain rfl : y = x + 1 := by omega
  exact h
theorem insInner_keeps (hS : SWO lt) (a : Nat) : ∀ (j : Nat) (d : Array α), j < d.size → Keeps lt d.toList (insInner lt a j d).toList ∧ (insInner lt a j d).size = d.size
  | 0, d, _ => by unfold insInner; exact ⟨Keeps.refl _, rfl⟩
  | j + 1, d, h => by
    unfold insInner
    split
    · rename_i hc
      simp only [Bool.and_eq_true, decide_eq_true_eq] at hc
      have ih := insInner_keeps hS a j (swp d (j + 1) j) (by rw [swp_size]; omega)
      exact ⟨(keeps_swp hS h hc.2).trans ih.1, by rw [ih.2, swp_size]⟩
    · exact ⟨Keeps.refl _, rfl⟩
theorem insOuter_keeps (hS : SWO lt) (a b : Nat) : ∀ (n i : Nat) (d : Array α), b - i = n → b ≤ d.size → Keeps lt d.toList (insOuter lt a b i d).toList
  | 0, i, d, hn, hb => by rw [insOuter, if_neg (by omega)]; exact Keeps.refl _
  | n + 1, i, d, hn, hb => by
    rw [insOuter, if_pos (by omega)]
    have h1 := insInner_keeps hS a i d (by omega)
    exact h1.1.trans (insOuter_keeps hS a b n (i + 1) _ (by omega) (by rw [h1.2]; exact hb))
theorem insertionSort_keeps (hS : SWO lt) (d : Array α) (a b : Nat) (hb : b ≤ d.size) : Keeps lt d.toList (insertionSort lt d a b).toList := insOuter_keeps hS a b _ (a + 1) d rfl hb

/-- Of a part: what it is sorted to, what stands elsewhere. -/
structure Done (lt : α → α → Bool) (a b : Nat) (d d' : Array α) : Prop where
  size : d'.size = d.size
  out : ∀ i, i < a ∨ b ≤ i → d'[i]! = d[i]!
  sorted : SortedIn lt a b d'
  keeps : Keeps lt d.toList d'.toList
theorem Mv.done {a b : Nat} {d d' : Array α} (h : Mv lt a b d d') : Done lt a b d d' := ⟨h.size, h.out, h.sorted, h.keeps⟩
theorem insertion_done (hS : SWO lt) (d : Array α) (a b : Nat) (hab : a ≤ b) (hb : b ≤ d.size) : Done lt a b d (insertionSort lt d a b) := by
  have h := insertionSort_holds (lt := lt) hS d a b hab hb
  exact ⟨h.1.1, h.1.2.1, h.2, insertionSort_keeps hS d a b hb⟩

/-- Runs of s from a on, up to n. -/
inductive Runs (lt : α → α → Bool) (d : Array α) (s n : Nat) : Nat → Prop
  | last (a : Nat) (h : n ≤ a + s) (h2 : SortedIn lt a n d) : Runs lt d s n a
  | more (a : Nat) (h : a + s < n) (h2 : SortedIn lt a (a + s) d) (h3 : Runs lt d s n (a + s)) : Runs lt d s n a

/-- A pass: what lies ahead of a is in runs of s already. -/
structure Pass (lt : α → α → Bool) (d0 d : Array α) (s n a : Nat) : Prop where
  size : d.size = d0.size
  keeps : Keeps lt d0.toList d.toList
  ahead : ∀ d' : Array α, (∀ i, i < a → d'[i]! = d[i]!) → Runs lt d' s n a → Runs lt d' s n 0
theorem Pass.start (d0 d : Array α) (s n : Nat) (hs : d.size = d0.size) (hk : Keeps lt d0.toList d.toList) : Pass lt d0 d s n 0 := ⟨hs, hk, fun _ _ h => h⟩
theorem SortedIn.congr {a b : Nat} {d d' : Array α} (h : SortedIn lt a b d) (he : ∀ i, a ≤ i → i < b → d'[i]! = d[i]!) : SortedIn lt a b d' := fun i j h1 h2 h3 => by
  rw [he i h1 (by omega), he j (by omega) h3]; exact h i j h1 h2 h3
/-- One run more. -/
theorem Pass.step {d0 d d' : Array α} {s n a : Nat} (p : Pass lt d0 d s n a) (h : Done lt a (a + s) d d') (hb : a + s ≤ n) : Pass lt d0 d' s n (a + s) := by
  refine ⟨h.size.trans p.size, p.keeps.trans h.keeps, fun d'' he hr => p.ahead d'' (fun i hi => by rw [he i (by omega), h.out i (.inl hi)]) ?_⟩
  have hsrt : SortedIn lt a (a + s) d'' := SortedIn.congr h.sorted fun i h1 h2 => he i h2
  rcases Nat.lt_or_ge (a + s) n with h1 | h1
  · exact .more a h1 hsrt hr
  · obtain rfl : n = a + s := by omega
    exact .last a (Nat.le_refl _) hsrt
/-- The last run. -/
theorem Pass.fin {d0 d d' : Array α} {s n a : Nat} (p : Pass lt d0 d s n a) (h : Done lt a n d d') (hb : n ≤ a + s) : d'.size = d0.size ∧ Keeps lt d0.toList d'.toList ∧ Runs lt d' s n 0 :=
  ⟨h.size.trans p.size, p.keeps.trans h.keeps, p.ahead d' (fun i hi => h.out i (.inl hi)) (.last a hb h.sorted)⟩
/-- The runs that are left to merge. -/
theorem Runs.two {d : Array α} {s n a : Nat} (h : Runs lt d s n a) (hn : a + 2 * s ≤ n) (hs : 0 < s) : SortedIn lt a (a + s) d ∧ SortedIn lt (a + s) (a + 2 * s) d ∧ (a + 2 * s < n → Runs lt d s n (a + 2 * s)) := by
  cases h with
  | last _ h1 h2 => omega
  | more _ h1 h2 h3 =>
    refine ⟨h2, ?_⟩
    cases h3 with
    | last _ h4 h5 =>
      obtain rfl : n = a + 2 * s := by omega
      exact ⟨h5, fun h => by omega⟩
    | more _ h4 h5 h6 =>
      rw [show a + s + s = a + 2 * s by omega] at h5 h6
      exact ⟨h5, fun _ => h6⟩
theorem Runs.tail {d : Array α} {s n a : Nat} (h : Runs lt d s n a) (hn : a + s < n) (h2 : n < a + 2 * s) : SortedIn lt a (a + s) d ∧ SortedIn lt (a + s) n d := by
  cases h with
  | last _ h1 h2 => omega
  | more _ h1 h2 h3 =>
    refine ⟨h2, ?_⟩
    cases h3 with
    | last _ h4 h5 => exact h5
    | more _ h4 h5 h6 => omega
theorem Runs.one {d : Array α} {s n a : Nat} (h : Runs lt d s n a) (hn : n ≤ a + s) : SortedIn lt a n d := by
  cases h with
  | last _ h1 h2 => exact h2
  | more _ h1 h2 h3 => omega
theorem Runs.congr {d d' : Array α} {s n a : Nat} (h : Runs lt d s n a) : (∀ i, a ≤ i → d'[i]! = d[i]!) → Runs lt d' s n a := by
  induction h with
  | last a h1 h2 => exact fun he => .last a h1 (SortedIn.congr h2 fun i hi _ => he i hi)
  | more a h1 h2 h3 ih => exact fun he => .more a h1 (SortedIn.congr h2 fun i hi _ => he i hi) (ih fun i hi => he i (by omega))

theorem sortedIn_pairwise {d : Array α} (h : SortedIn lt 0 d.size d) : d.toList.Pairwise (fun x y => lt y x = false) := by
  rw [List.pairwise_iff_getElem]
  intro i j hi hj hij
  have := h i j (by omega) hij (by simpa using hj)
  simp only [Array.length_toList] at hi hj
  rw [getElem!_pos d i hi, getElem!_pos d j hj] at this
  simpa using this
end Go.Proofs.YtkmcbpkciakmeaaGreatDoor.PA
namespace Go.Proofs.YtkmcbpkciakmeaaGreatDoor.PA
open Go.Sort
variable {α : Type} {lt : α → α → Bool}
/-- An element is put behind all that are not above it. -/
def putS (lt : α → α → Bool) (x : α) : List α → List α
  | [] => [x]
  | y :: r => if lt x y = true then x :: y :: r else y :: putS lt x r
def sortBy (lt : α → α → Bool) : List α → List α → List α
  | out, [] => out
  | out, x :: r => sortBy lt (putS lt x out) r
theorem putS_mem {x z : α} : ∀ {l : List α}, z ∈ putS lt x l → z = x ∨ z ∈ l
  | [], h => by simpa [putS] using h
  | y :: r, h => by
    unfold putS at h
    split at h
    · simpa using h
    · rcases List.mem_cons.1 h with h | h
      · exact .inr (by simp [h])
      · rcases putS_mem h with h | h
        · exact .inl h
        · exact .inr (by simp [h])
theorem putS_keeps (hS : SWO lt) (x : α) : ∀ (l : List α), l.Pairwise (fun x y => lt y x = false) → Keeps lt (l ++ [x]) (putS lt x l) ∧ (putS lt x l).Pairwise (fun x y => lt y x = false)
  | [], _ => ⟨Keeps.refl _, by simp [putS]⟩
  | y :: r, h => by
    obtain ⟨h1, h2⟩ := List.pairwise_cons.1 h
    unfold putS
    split
    · rename_i hc
      refine ⟨?_, ?_⟩
      · have := keeps_swap hS (y :: r) [x] (fun z hz w hw => by
          obtain rfl := List.mem_singleton.1 hw
          rcases List.mem_cons.1 hz with rfl | hz
          · exact hc
          · exact SWO.lt_le hS hc (h1 z hz))
        simpa using this
      · rw [List.pairwise_cons]
        refine ⟨fun z hz => ?_, h⟩
        rcases List.mem_cons.1 hz with rfl | hz
        · exact hS.asymmA hc
        · exact hS.asymmA (SWO.lt_le hS hc (h1 z hz))
    · rename_i hc
      have hc' : lt x y = false := by simpa using hc
      obtain ⟨k, p⟩ := putS_keeps hS x r h2
      refine ⟨(Keeps.refl [y]).app k, ?_⟩
      rw [List.pairwise_cons]
      refine ⟨fun z hz => ?_, p⟩
      rcases putS_mem hz with rfl | hz
      · exact hc'
      · exact h1 z hz
theorem sortBy_keeps (hS : SWO lt) : ∀ (xs out : List α), out.Pairwise (fun x y => lt y x = false) → Keeps lt (out ++ xs) (sortBy lt out xs) ∧ (sortBy lt out xs).Pairwise (fun x y => lt y x = false)
  | [], out, h => ⟨by rw [List.append_nil]; exact Keeps.refl _, h⟩
  | x :: r, out, h => by
    obtain ⟨k, p⟩ := putS_keeps hS x out h
    obtain ⟨k2, p2⟩ := sortBy_keeps hS r (putS lt x out) p
    refine ⟨Keeps.trans ?_ k2, p2⟩
    have := k.app (Keeps.refl r)
    simpa using this
end Go.Proofs.YtkmcbpkciakmeaaGreatDoor.PA
