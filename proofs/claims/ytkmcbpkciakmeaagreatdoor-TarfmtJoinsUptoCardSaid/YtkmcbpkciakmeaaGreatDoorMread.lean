/- Trees that were written are read. -/
import Derived.Test.YtkmcbpkciakmeaaGreatDoorMstate
import Derived.Test.YtkmcbpkciakmeaaGreatDoorMparse
import Derived.Test.YtkmcbpkciakmeaaGreatDoorMone
import Derived.Test.YtkmcbpkciakmeaaGreatDoorMentry
import Derived.Test.YtkmcbpkciakmeaaGreatDoorMwrite
import Derived.Test.YtkmcbpkciakmeaaGreatDoorMprinted
import Derived.Test.YtkmcbpkciakmeaaGreatDoorMcheck

/- tarfmt.keep: records of new keys are kept in an empty map. -/
set_option linter.unusedVariables false
set_option linter.unusedSimpArgs false
namespace Go.Proofs.YtkmcbpkciakmeaaGreatDoor.PA
open Go.RowKit Go.Proofs.YtkmcbpkciakmeaaGreatDoorW.PrintWords Go.Proofs.YtkmcbpkciakmeaaGreatDoorW.PrintLast Go.Proofs.YtkmcbpkciakmeaaGreatDoorW.PrintMore

theorem RE.update {w0 : World} {p m1 m2 : Nat} {vb vt : Value} {most ents : Int} {nx nx' : List KV} {xs : List S44} {W W' : World} (r : RE w0 p m1 m2 vb vt most ents nx xs W) (hm : MapIs W' m1 nx') (ho : ∀ j, j ≠ m1 → W'.heap[j]? = W.heap[j]?) (hb : ∀ B w0, Below B w0 W → B ≤ m1 → Below B w0 W') : RE w0 p m1 m2 vb vt most ents nx' xs W' := by
  have a := r.at_
  exact ⟨⟨hb _ _ a.below a.m10, (ho p (Ne.symm a.ne1)).trans a.blk, hm, a.always.keep (ho m2 (Ne.symm a.ne12)), a.p0, a.m10, a.m20, a.ne1, a.ne2, a.ne12⟩, Kd.R_move r.rows (fun k hk => ho k hk.2.1)⟩
theorem take_succ_getD (l : List KV) (k : Nat) (hk : k < l.length) : l.take (k + 1) = l.take k ++ [l.getD k zKV] := by
  rw [List.take_add_one, List.getElem?_eq_getElem hk, List.getD_eq_getElem?_getD, List.getElem?_eq_getElem hk]
  rfl

structure KpAt (w0 : World) (p m1 m2 : Nat) (vb vt : Value) (most ents : Int) (kvs : List KV) (k : Nat) (xs : List S44) (A : Option Addr) (c B : Nat) (W : World) : Prop where
  le : k ≤ kvs.length
  re : RE w0 p m1 m2 vb vt most ents (kvs.take k) xs W
  row : Kd.R k39 39 W B (fun j => j ≠ m1) (.slice A kvs.length c) kvs

set_option maxHeartbeats 2000000 in
set_option maxRecDepth 100000 in
theorem keep_calls {w0 : World} {p m1 m2 : Nat} {vb vt : Value} {most ents : Int} {xs : List S44} {w : World} (r : RE w0 p m1 m2 vb vt most ents [] xs w) (hT : Tabs w0) (v : Value) (l : Bytes) (hv : RB w0 v l) (hl : l.length ≤ 1073741824) (kvs : List KV) (hp : parseS l = some kvs)
    (hn : kvs.length ≤ 1000) (hf : ∀ i, i < kvs.length → getS (kvs.take i) (kvs.getD i zKV).1 = none) :
    Calls Tryz.prog 56 #[.map (some m1), v] w fun e w' => e = .returned (.int .i64 0) ∧ RE w0 p m1 m2 vb vt most ents kvs xs w' := by
  have hcv : (convert 25 9 v).run Tryz.prog w = .ok (.string (str l)) w := conv_string (hv.below r.at_.below)
  have H18 : Calls Tryz.prog 18 #[.string (str l)] w fun e w' => ∃ A c, e = .returned (.tuple #[.slice A kvs.length c, .bool true]) ∧ Kd.R k39 39 w' w.heap.size (fun _ => True) (.slice A kvs.length c) kvs ∧ Below w.heap.size w w' := by
    refine (parse_calls (str l) w (hT.below r.at_.below) (by rw [str_size]; exact hl)).mono ?_
    rintro e w' ⟨h, hb⟩
    rw [data_str, hp] at h
    rcases h with ⟨h, -⟩ | ⟨kvs', v', h, rfl, hR⟩
    · cases h
    · injection h with h
      subst h
      obtain ⟨A, c, rfl⟩ := Kd.R_slice hR
      exact ⟨A, c, rfl, hR, hb⟩
  have H18 := Aside0.mk H18
  have HR := Aside0.mk r
  have HF := Aside0.mk hf
  have hm1 : m1 < w.heap.size := r.at_.next.lt
  clear r hT hv hp hf
  obtain ⟨S, hS⟩ : ∃ S, S = str l := ⟨_, rfl⟩
  rw [← hS] at hcv H18
  clear hS
  go_enter Tryz.func56, Tryz.ntmps56
  go_wp2_with (first | (go_at_call 18; refine (H18.out).mono ?_; rintro e w1 ⟨A, c, rfl, hR1, hb1⟩; have K1 : Aside0 (KpAt w0 p m1 m2 vb vt most ents kvs 0 xs A c w.heap.size w1) := ⟨⟨by omega, HR.out.then_ hb1, Kd.R_mono (Kd.R_bound hR1) (fun k hk => by have := hk.2.1; omega)⟩⟩; clear hR1))
  go_loopw [19] (fun v19 wr => ∃ k : Nat, v19 = .int .i64 k ∧ Aside0 (KpAt w0 p m1 m2 vb vt most ents kvs k xs A c w.heap.size wr)) (fun v19 _ => kvs.length - (intOf v19).toNat)
  case atStart => exact ⟨0, rfl, K1⟩
  case round =>
    obtain ⟨k, rfl, hA⟩ := hrel
    by_cases hk : k < kvs.length
    · obtain ⟨A', c', hv', hle, hC⟩ := Kd.R_reads hA.out.row
      injection hv' with e1 e2 e3
      subst e1 e3
      obtain ⟨ad, eA, c0_, c1_⟩ := at_39 hC k hk
      have hfr := HF.out k hk
      obtain ⟨x, hx⟩ : ∃ x, kvs.getD k zKV = x := ⟨_, rfl⟩
      rw [hx] at c0_ c1_ hfr
      have HX := Aside0.mk hx
      clear hx hC
      subst eA
      obtain ⟨x0, x1⟩ := x
      dsimp only at c0_ c1_ hfr
      obtain ⟨W2, hW2⟩ : ∃ W2, W2 = wr.alloc (Obj.cells #[Value.string x0, Value.string x1] 39) := ⟨_, rfl⟩
      have K2 : KpAt w0 p m1 m2 vb vt most ents kvs k xs (some ad) c w.heap.size W2 := by
        rw [hW2]
        exact ⟨hA.out.le, hA.out.re.then_ (below_alloc (Below.refl _ _) _), Kd.R_below hA.out.row (below_alloc (Below.refl _ _) _)⟩
      have hd0 : W2.cell? ⟨wr.heap.size, 0, none⟩ = some (.string x0) := by rw [hW2]; simp
      have hd1 : W2.cell? ⟨wr.heap.size, 1, none⟩ = some (.string x1) := by rw [hW2]; simp
      obtain ⟨W3, hrun, h1, h2, h3, h4⟩ := run_update_S K2.re.at_.next x0 x1 hfr
      have K3 : Aside0 (KpAt w0 p m1 m2 vb vt most ents kvs (k + 1) xs (some ad) c w.heap.size W3) := by
        refine ⟨⟨hk, ?_, Kd.R_move K2.row (fun j hj => h3 j hj)⟩⟩
        rw [take_succ_getD kvs k hk, HX.out]
        exact K2.re.update h1 h3 h4
      have HW2 := Aside0.mk hW2
      clear h1 h2 h3 h4 K2 hfr hW2 hA
      rw [HW2.out] at hd0 hd1 hrun
      go_wp2_with fail
      go_roundw
      case rel => exact ⟨k + 1, by push_cast; rfl, K3⟩
      case measure => simp [intOf]; omega
    · have HE : Aside0 (kvs.take k = kvs) := ⟨List.take_of_length_le (by omega)⟩
      go_wp2_with fail
      go_ret
      refine ⟨rfl, ?_⟩
      have := hA.out.re
      rwa [HE.out] at this
end Go.Proofs.YtkmcbpkciakmeaaGreatDoor.PA

/- (*tarfmt.reader).one, at the header of a fine entry, and at that of its records. -/
set_option linter.unusedVariables false
set_option linter.unusedSimpArgs false
namespace Go.Proofs.YtkmcbpkciakmeaaGreatDoor.PA
open Go.RowKit Go.Proofs.YtkmcbpkciakmeaaGreatDoorW.PrintWords Go.Proofs.YtkmcbpkciakmeaaGreatDoorW.PrintLast Go.Proofs.YtkmcbpkciakmeaaGreatDoorW.PrintMore

theorem fillS_len (l : Bytes) : (fillS l).length = (l.length + 511) / 512 * 512 := by
  unfold fillS
  rw [List.length_append, List.length_replicate]
  omega
theorem fillS_take (l r : Bytes) : (fillS l ++ r).take l.length = l := by
  unfold fillS
  rw [List.append_assoc, List.take_left']
  rfl
theorem easy_secs {t : Int} (h : easy t = true) : ((secsOf t : Nat) : Int) * 1000000000 = t := by
  unfold secsOf
  rw [h, if_pos rfl]
  unfold easy at h
  simp only [Bool.and_eq_true, decide_eq_true_eq] at h
  omega
theorem Fine.when_ {x : S44} (h : Fine x) {w0 : World} {p m1 m2 : Nat} {vb vt : Value} {most ents : Int} {W : World} (r : RdAt w0 p m1 m2 vb vt most ents (recs3 x) W) (hT : Tabs W) :
    Calls Tryz.prog 94 #[.pointer (some ⟨p, 0, none⟩), .int .i64 (secsOf x.f4)] W fun e w' => e = .returned (.tuple #[.int .i64 x.f4, .int .i64 0]) ∧ Below W.heap.size W w' := by
  have ht := h.time
  have hg := get_time x
  cases he : easy x.f4 with
  | true =>
    rw [he] at hg
    have e := easy_secs he
    refine (when_field r (secsOf x.f4) (by omega) (by rw [hg]; rfl)).mono ?_
    rintro e' w' ⟨rfl, rfl⟩
    exact ⟨by rw [e], Below.refl _ _⟩
  | false =>
    rw [he] at hg
    exact when_record r hT (secsOf x.f4) x.f4 ht (by rw [hg]; rfl)
theorem rb_len {w : World} {A : Option Addr} {n c : Nat} {l : Bytes} (h : RB w (.slice A n c) l) : n = l.length := by
  obtain ⟨A', c', hv, -⟩ := h
  injection hv

theorem one_x {w0 : World} {p m1 m2 : Nat} {ad : Addr} {n c : Nat} {vt : Value} {most ents : Int} {x : S44} {xs : List S44} {w : World} (r : RE w0 p m1 m2 (.slice (some ad) n c) vt most ents (recs3 x) xs w) (hT : Tabs w0) (hf : Fine x)
    (rest : Bytes) (hne : rest ≠ []) (hB : RB w0 (.slice (some ad) n c) (fillS x.f5.data.toList ++ rest)) (v : Value) (hv : RB w0 v (hdS (hdX x (secsOf x.f4))))
    (hx : xs.length ≤ 1000) (h1 : (xs.length : Int) < ents) (h2 : (x.f5.size : Int) ≤ most) (h3 : most ≤ 4611686018427387904) :
    Calls Tryz.prog 29 #[.pointer (some ⟨p, 0, none⟩), v] w fun e w' => e = .returned (.int .i64 0) ∧ ∃ vt', RE w0 p m1 m2 (.slice (some (ad.add (fillS x.f5.data.toList).length)) (n - (fillS x.f5.data.toList).length) (c - (fillS x.f5.data.toList).length)) vt' (most - x.f5.size) ents [] (xs ++ [x]) w' := by
  have hn := rb_len hB
  rw [List.length_append] at hn
  have hrl : 0 < rest.length := List.length_pos_iff.2 hne
  have hd := hf.data
  have hm := hf.mode
  have hfl := fillS_len x.f5.data.toList
  rw [data_length] at hfl
  obtain ⟨k, hk⟩ : ∃ k, k = (fillS x.f5.data.toList).length := ⟨_, rfl⟩
  have hfs : x.f5.size ≤ (fillS x.f5.data.toList).length := by omega
  rw [← hk] at hn hfl hfs ⊢
  have hkd : kindB x.f0 = 48 ∨ ((kindB x.f0 = 53 ∨ kindB x.f0 = 50) ∧ x.f5.size = 0) := by
    rcases hf.kinds with ⟨e, -⟩ | ⟨e, -, e5⟩ | ⟨e, e5, -⟩
    · rw [e]; exact .inl rfl
    · rw [e, e5]; exact .inr ⟨.inl rfl, rfl⟩
    · rw [e, e5]; exact .inr ⟨.inr rfl, rfl⟩
  refine (one_entry r hT (fillS x.f5.data.toList ++ rest) hB (hdX x (secsOf x.f4)) v hv hf.hd (show x.f5.size ≤ _ by omega) (show x.f5.size ≤ n by omega) k (show k = min ((x.f5.size + 511) / 512 * 512) n by omega) (by omega) (get_size x) hkd
    (fun i w' => i = 0 ∧ ∃ vt', RE w0 p m1 m2 (.slice (some (ad.add k)) (n - k) (c - k)) vt' (most - x.f5.size) ents [] (xs ++ [x]) w') ?_).mono ?_
  · intro W rW
    have hpk := pick_path x
    have e0 : str (List.take (hdX x (secsOf x.f4)).size (fillS x.f5.data.toList ++ rest)) = x.f5 := by
      show str (List.take x.f5.data.toList.length _) = _
      rw [fillS_take, str_data]
    rw [e0]
    refine (entry_ok rW (hT.below rW.at_.below) (rdH (hdX x (secsOf x.f4))) x.f5 x.f4 x.f1.data.toList (show x.f3.toNat < 4096 by omega) (by rw [hpk]; have := hf.path; omega) (by rw [hpk]; exact right_clean hf.right) (fun W2 hW2 => hf.when_ (rW.then_ hW2).at_ (hT.below (rW.then_ hW2).at_.below)) hx h1 h2 h3).mono ?_
    rintro e w' ⟨rfl, vt', hR⟩
    refine ⟨0, rfl, rfl, vt', ?_⟩
    have ek : kindN (rdH (hdX x (secsOf x.f4))).kind = x.f0 := hf.kind_
    have em : (((rdH (hdX x (secsOf x.f4))).mode : Nat) : Int) = x.f3 := by show ((x.f3.toNat : Nat) : Int) = _; omega
    rw [ek, em, hf.tgt, str_data] at hR
    exact hR
  · rintro e w' ⟨i, rfl, rfl, h⟩
    exact ⟨rfl, h⟩
theorem one_x_over {w0 : World} {p m1 m2 : Nat} {ad : Addr} {n c : Nat} {vt : Value} {most ents : Int} {x : S44} {xs : List S44} {w : World} (r : RE w0 p m1 m2 (.slice (some ad) n c) vt most ents (recs3 x) xs w) (hT : Tabs w0) (hf : Fine x)
    (rest : Bytes) (hne : rest ≠ []) (hB : RB w0 (.slice (some ad) n c) (fillS x.f5.data.toList ++ rest)) (v : Value) (hv : RB w0 v (hdS (hdX x (secsOf x.f4))))
    (hov : ents ≤ (xs.length : Int) ∨ most < (x.f5.size : Int)) :
    Calls Tryz.prog 29 #[.pointer (some ⟨p, 0, none⟩), v] w fun e w' => e = .returned (.int .i64 162) ∧ Below w0.heap.size w0 w' := by
  have hn := rb_len hB
  rw [List.length_append] at hn
  have hrl : 0 < rest.length := List.length_pos_iff.2 hne
  have hd := hf.data
  have hm := hf.mode
  have hfl := fillS_len x.f5.data.toList
  rw [data_length] at hfl
  obtain ⟨k, hk⟩ : ∃ k, k = (fillS x.f5.data.toList).length := ⟨_, rfl⟩
  have hfs : x.f5.size ≤ (fillS x.f5.data.toList).length := by omega
  rw [← hk] at hn hfl hfs
  have hkd : kindB x.f0 = 48 ∨ ((kindB x.f0 = 53 ∨ kindB x.f0 = 50) ∧ x.f5.size = 0) := by
    rcases hf.kinds with ⟨e, -⟩ | ⟨e, -, e5⟩ | ⟨e, e5, -⟩
    · rw [e]; exact .inl rfl
    · rw [e, e5]; exact .inr ⟨.inl rfl, rfl⟩
    · rw [e, e5]; exact .inr ⟨.inr rfl, rfl⟩
  refine (one_entry r hT (fillS x.f5.data.toList ++ rest) hB (hdX x (secsOf x.f4)) v hv hf.hd (show x.f5.size ≤ _ by omega) (show x.f5.size ≤ n by omega) k (show k = min ((x.f5.size + 511) / 512 * 512) n by omega) (by omega) (get_size x) hkd
    (fun i w' => i = 162 ∧ Below w0.heap.size w0 w') ?_).mono ?_
  · intro W rW
    have hpk := pick_path x
    have e0 : str (List.take (hdX x (secsOf x.f4)).size (fillS x.f5.data.toList ++ rest)) = x.f5 := by
      show str (List.take x.f5.data.toList.length _) = _
      rw [fillS_take, str_data]
    rw [e0]
    refine (entry_over rW (hT.below rW.at_.below) (rdH (hdX x (secsOf x.f4))) x.f5 x.f4 x.f1.data.toList (show x.f3.toNat < 4096 by omega) (by rw [hpk]; have := hf.path; omega) (by rw [hpk]; exact right_clean hf.right) (fun W2 hW2 => hf.when_ (rW.then_ hW2).at_ (hT.below (rW.then_ hW2).at_.below)) hov).mono ?_
    rintro e w' ⟨rfl, hR⟩
    exact ⟨162, rfl, rfl, hR⟩
  · rintro e w' ⟨i, rfl, rfl, h⟩
    exact ⟨rfl, h⟩
theorem one_pax {w0 : World} {p m1 m2 : Nat} {ad : Addr} {n c : Nat} {vt : Value} {most ents : Int} {x : S44} {xs : List S44} {w : World} (r : RE w0 p m1 m2 (.slice (some ad) n c) vt most ents [] xs w) (hT : Tabs w0) (hf : Fine x)
    (rest : Bytes) (hne : rest ≠ []) (hB : RB w0 (.slice (some ad) n c) (fillS (recsS (recs3 x)) ++ rest)) (v : Value) (hv : RB w0 v (hdS (hdP (recsS (recs3 x)).length))) :
    Calls Tryz.prog 29 #[.pointer (some ⟨p, 0, none⟩), v] w fun e w' => e = .returned (.int .i64 0) ∧ RE w0 p m1 m2 (.slice (some (ad.add (fillS (recsS (recs3 x))).length)) (n - (fillS (recsS (recs3 x))).length) (c - (fillS (recsS (recs3 x))).length)) vt most ents (recs3 x) xs w' := by
  have hn := rb_len hB
  rw [List.length_append] at hn
  have hrl : 0 < rest.length := List.length_pos_iff.2 hne
  have ht := hf.time
  have hl3 := recs3_len x
  have hrs := recsS_le 300 (by omega) (recs3 x) (recs3_size x hf.path hf.link (by omega) (by omega))
  have hrs2 : (recs3 x).length * (300 + 23) ≤ 3 * (300 + 23) := Nat.mul_le_mul_right _ hl3
  have hfl := fillS_len (recsS (recs3 x))
  obtain ⟨k, hk⟩ : ∃ k, k = (fillS (recsS (recs3 x))).length := ⟨_, rfl⟩
  rw [← hk] at hn hfl ⊢
  have hsn : (recsS (recs3 x)).length ≤ n := by omega
  refine (one_keep r hT (fillS (recsS (recs3 x)) ++ rest) hB (hdP (recsS (recs3 x)).length) v hv (hdP_good _ (by omega)) (show (recsS (recs3 x)).length ≤ _ by omega) hsn k (show k = min (((recsS (recs3 x)).length + 511) / 512 * 512) n by omega) (by omega) (getS_nil _) rfl
    (fun i w' => i = 0 ∧ RE w0 p m1 m2 (.slice (some (ad.add k)) (n - k) (c - k)) vt most ents (recs3 x) xs w') ?_).mono ?_
  · intro W rW
    have hb2 := hB.take (recsS (recs3 x)).length (by rw [List.length_append]; omega)
    rw [fillS_take] at hb2
    refine (keep_calls rW hT _ _ hb2 (by omega) (recs3 x) (parseS_recs _ (recs_good hf)) (by omega) (recs_fresh x)).mono ?_
    rintro e w' ⟨rfl, hR⟩
    exact ⟨0, rfl, rfl, hR⟩
  · rintro e w' ⟨i, rfl, rfl, h⟩
    exact ⟨rfl, h⟩
end Go.Proofs.YtkmcbpkciakmeaaGreatDoor.PA

/- The tree of one entry that alive writes: it can be held; what it is written as; no program in sight. -/
set_option linter.unusedVariables false
set_option linter.unusedSimpArgs false
namespace Go.Proofs.YtkmcbpkciakmeaaGreatDoor.PA
open Go.RowKit Go.Proofs.YtkmcbpkciakmeaaGreatDoorW.PrintWords Go.Proofs.YtkmcbpkciakmeaaGreatDoorW.PrintLast Go.Proofs.YtkmcbpkciakmeaaGreatDoorW.PrintMore

def xA : S44 := ⟨1, ⟨#[97]⟩, ⟨#[]⟩, 5, 7, ⟨#[120]⟩⟩
theorem cleanA : cleanS [97] = ([97], 0) := by rfl
theorem rightA : rightS xA = true := by
  unfold rightS
  rw [show xA.f1.data.toList = [97] from rfl, cleanA]
  unfold kindS
  simp [xA, Lib.toList_data]
theorem checkA : checkS [xA] = 0 := by
  have hu : underS ([] : List S44) xA.f1.data.toList = true := by rfl
  have h : checkAt [xA] 0 = 0 := by
    unfold checkAt
    rw [show ([xA].getD 0 z44) = xA from rfl, rightA, if_neg (by simp), if_neg (show ¬ (1048576 < xA.f5.size) by decide), if_neg (by simp), if_neg (by simp), show ([xA].take 0) = [] from rfl, hu, if_neg (by simp)]
  unfold checkS
  rw [if_neg (by simp)]
  show checkFrom [xA] 0 1 = 0
  rw [checkFrom, h, if_pos rfl, checkFrom]
theorem canA : canS [xA] = true := by
  unfold canS
  rw [checkA]
  decide
theorem fineA : Fine xA := (can_fine canA).2 xA (List.mem_singleton.2 rfl)
theorem sameA : wainloadref16_Same.f 2 [xA] [xA] = some true := by
  simp [wainloadref16_Same.f, wainloadref16_Same.l0, rd_T44, wrap64]
theorem recA : recsS [(⟨#[112, 97, 116, 104]⟩, ⟨#[97]⟩)] = [57, 32, 112, 97, 116, 104, 61, 97, 10] := by
  have h : recNum 8 = 9 := by
    unfold recNum
    rw [recFrom, if_neg (by rw [decLen_lt (by omega)]; omega), recFrom, if_pos (by rw [decLen_lt (by omega)])]
  show recB (⟨#[112, 97, 116, 104]⟩, ⟨#[97]⟩) ++ [] = _
  unfold recB
  rw [show (⟨#[112, 97, 116, 104]⟩ : ByteArray).size + (⟨#[97]⟩ : ByteArray).size + 3 = 8 from rfl, h, dec_lt (by omega)]
  rfl
theorem easyA : easy xA.f4 = false := by rfl
theorem lenA : (writeS [xA]).length = 3072 := by
  have h3 : recs3 xA = [(str bTime, str (putSecS 7))] := by
    unfold recs3 recs2 recs1
    rw [easyA]
    rfl
  have hs := putSecS_le 7 (by omega) (by omega)
  have hf := fineA
  have hg := hf.hd
  have hl := recsS_le 300 (by omega) (recs3 xA) (recs3_size xA hf.path hf.link (by have := hf.time; omega) (by have := hf.time; omega))
  rw [h3] at hl
  have hl0 : 0 < (recsS (recs3 xA)).length := by
    rw [h3]
    show 0 < (recB _ ++ []).length
    unfold recB
    simp
    omega
  have e : writtenS xA = paxS xA ++ hdS (hdX xA (secsOf xA.f4)) ++ fillS xA.f5.data.toList := rfl
  have ep : paxS xA = hdS (hdP (recsS (recs3 xA)).length) ++ fillS (recsS (recs3 xA)) := by
    unfold paxS
    rw [if_neg (by rw [h3]; simp)]
  have eb : bodyS [xA] = writtenS xA := List.append_nil _
  have h5 : xA.f5.data.toList.length = 1 := rfl
  have l1 := hdS_len _ hg.fits
  simp only [List.length_cons, List.length_nil] at hl
  rw [← h3] at hl
  have l2 := hdS_len _ (hdP_fits (recsS (recs3 xA)).length (by omega))
  have f1 := fillS_len xA.f5.data.toList
  have f2 := fillS_len (recsS (recs3 xA))
  rw [h5] at f1
  show (bodyS [xA] ++ List.replicate 1024 0).length = 3072
  rw [List.length_append, eb, e, ep, List.length_append, List.length_append, List.length_append, List.length_replicate, l1, l2, f1, f2]
  generalize (recsS (recs3 xA)).length = r at *
  omega
end Go.Proofs.YtkmcbpkciakmeaaGreatDoor.PA

/- tarfmt.Read: what its loop keeps, at the bytes that a list of fine entries is written as. -/
set_option linter.unusedVariables false
set_option linter.unusedSimpArgs false
namespace Go.Proofs.YtkmcbpkciakmeaaGreatDoor.PA
open Go.RowKit Go.Proofs.YtkmcbpkciakmeaaGreatDoorW.PrintWords Go.Proofs.YtkmcbpkciakmeaaGreatDoorW.PrintLast Go.Proofs.YtkmcbpkciakmeaaGreatDoorW.PrintMore

def sizeS (xs : List S44) : Nat := (xs.map fun x => x.f5.size).sum
theorem sizeS_app (xs ys : List S44) : sizeS (xs ++ ys) = sizeS xs + sizeS ys := by unfold sizeS; rw [List.map_append, List.sum_append]
theorem sizeS_one (x : S44) : sizeS [x] = x.f5.size := by simp [sizeS]
theorem sizeS_take_le (xs : List S44) (k : Nat) : sizeS (xs.take k) ≤ sizeS xs := by
  have := sizeS_app (xs.take k) (xs.drop k)
  rw [List.take_append_drop] at this
  omega
theorem take_succ44 (l : List S44) (k : Nat) (hk : k < l.length) : l.take (k + 1) = l.take k ++ [l[k]] := by
  rw [List.take_add_one, List.getElem?_eq_getElem hk]
  rfl
/-- What stands next. -/
inductive Nxt (xs : List S44) (tail : Bytes) (k : Nat) : List KV → Bytes → Prop
  | fin (h : k = xs.length) : Nxt xs tail k [] tail
  | ent (h : k < xs.length) : Nxt xs tail k (recs3 xs[k]) (hdS (hdX xs[k] (secsOf xs[k].f4)) ++ (fillS xs[k].f5.data.toList ++ (bodyS (xs.drop (k + 1)) ++ tail)))
  | pax (h : k < xs.length) : Nxt xs tail k [] (hdS (hdP (recsS (recs3 xs[k])).length) ++ (fillS (recsS (recs3 xs[k])) ++ (hdS (hdX xs[k] (secsOf xs[k].f4)) ++ (fillS xs[k].f5.data.toList ++ (bodyS (xs.drop (k + 1)) ++ tail)))))
theorem Nxt.of (xs : List S44) (tail : Bytes) (k : Nat) (hk : k ≤ xs.length) : Nxt xs tail k [] (bodyS (xs.drop k) ++ tail) := by
  rcases Nat.eq_or_lt_of_le hk with h | h
  · rw [List.drop_of_length_le (by omega)]
    exact Nxt.fin h
  · rw [List.drop_eq_getElem_cons h]
    have e : bodyS (xs[k] :: xs.drop (k + 1)) = writtenS xs[k] ++ bodyS (xs.drop (k + 1)) := rfl
    rw [e]
    unfold writtenS paxS
    split
    · rename_i h0
      have := Nxt.ent (tail := tail) h
      rw [h0] at this
      simpa [List.append_assoc] using this
    · have := Nxt.pax (tail := tail) h
      simpa [List.append_assoc] using this
/-- The reader between two rounds: n bytes are left. -/
def St (w : World) (p m1 m2 : Nat) (most ents : Int) (xs : List S44) (tail : Bytes) (K n : Nat) (W : World) : Prop :=
  ∃ ad c vt k nx rem, k ≤ K ∧ RE w p m1 m2 (.slice (some ad) n c) vt (most - sizeS (xs.take k)) ents nx (xs.take k) W ∧ RB w (.slice (some ad) n c) rem ∧ Nxt xs tail k nx rem
theorem hdS_head {h : Hd} (hf : h.fits) (b : UInt8) (t : Bytes) (hn : h.name.data.toList = b :: t) : ∃ r, hdS h = b :: r ∧ r.length = 511 := by
  have hl := hdS_len h hf
  have h1 := hd_low hf 0 100 (by omega)
  rw [h0_name, hn] at h1
  cases hs : hdS h with
  | nil => rw [hs] at hl; simp at hl
  | cons a r =>
    rw [hs] at h1 hl
    unfold seg at h1
    simp only [List.take_succ_cons, List.drop_zero, List.cons_append] at h1
    injection h1 with h2 h3
    exact ⟨r, by rw [h2], by simpa using hl⟩
theorem RB.drop_ {w : World} {ad : Addr} {n c : Nat} {a b : Bytes} (h : RB w (.slice (some ad) n c) (a ++ b)) (hb : b ≠ []) : RB w (.slice (some (ad.add a.length)) (n - a.length) (c - a.length)) b := by
  have hn := rb_len h
  rw [List.length_append] at hn
  have := List.length_pos_iff.2 hb
  have := h.from_ a.length (by omega)
  rwa [List.drop_left' rfl] at this
theorem RB.take_ {w : World} {A : Option Addr} {n c : Nat} {a b : Bytes} (h : RB w (.slice A n c) (a ++ b)) : RB w (.slice A a.length c) a := by
  have := h.take a.length (by rw [List.length_append]; omega)
  rwa [List.take_left' rfl] at this
theorem app_ne {a b : Bytes} (h : b ≠ []) : a ++ b ≠ [] := by
  intro e
  rw [List.append_eq_nil_iff] at e
  exact h e.2
/-- The limits suffice for the first K entries. -/
def Lim (xs : List S44) (most ents : Int) (K : Nat) : Prop := ∀ k, k < K → (k : Int) < ents ∧ (sizeS (xs.take (k + 1)) : Int) ≤ most
/-- One round goes on. -/
def Goes (w : World) (p m1 m2 : Nat) (most ents : Int) (xs : List S44) (tail : Bytes) (K : Nat) (ad : Addr) (n c : Nat) (vt : Value) (k : Nat) (nx : List KV) : Prop :=
  ∀ W, RE w p m1 m2 (.slice (some (ad.add 512)) (n - 512) (c - 512)) vt (most - sizeS (xs.take k)) ents nx (xs.take k) W → Calls Tryz.prog 29 #[.pointer (some ⟨p, 0, none⟩), .slice (some ad) 512 c] W fun e w' => e = .returned (.int .i64 0) ∧ ∃ n', n' < n ∧ St w p m1 m2 most ents xs tail K n' w'
/-- One round ends: the limits do not suffice. -/
def Stops (w : World) (p m1 m2 : Nat) (most ents : Int) (xs : List S44) (ad : Addr) (n c : Nat) (vt : Value) (k : Nat) (nx : List KV) : Prop :=
  ∀ W, RE w p m1 m2 (.slice (some (ad.add 512)) (n - 512) (c - 512)) vt (most - sizeS (xs.take k)) ents nx (xs.take k) W → Calls Tryz.prog 29 #[.pointer (some ⟨p, 0, none⟩), .slice (some ad) 512 c] W fun e w' => e = .returned (.int .i64 162) ∧ Below w.heap.size w w'
def HeadAt (w : World) (ad : Addr) (c : Nat) (rem : Bytes) : Prop := ∃ b r rest, rem = (b :: r) ++ rest ∧ rest ≠ [] ∧ b ≠ 0 ∧ r.length = 511 ∧ RB w (.slice (some ad) 512 c) (b :: r)
theorem sizeS_succ {xs : List S44} {k : Nat} (hk : k < xs.length) : sizeS (xs.take (k + 1)) = sizeS (xs.take k) + xs[k].f5.size := by rw [take_succ44 xs k hk, sizeS_app, sizeS_one]
/-- The header of records. -/
theorem St.pax_ {w : World} (hT : Tabs w) {p m1 m2 : Nat} {most ents : Int} {xs : List S44} {tail : Bytes} (htail : tail ≠ []) (hfine : ∀ x ∈ xs, Fine x) {K : Nat} {ad : Addr} {n c : Nat} {vt : Value} {k : Nat} {rem : Bytes}
    (hk : k < xs.length) (hkK : k ≤ K) (hrem : rem = hdS (hdP (recsS (recs3 xs[k])).length) ++ (fillS (recsS (recs3 xs[k])) ++ (hdS (hdX xs[k] (secsOf xs[k].f4)) ++ (fillS xs[k].f5.data.toList ++ (bodyS (xs.drop (k + 1)) ++ tail))))) (hB : RB w (.slice (some ad) n c) rem) :
    HeadAt w ad c rem ∧ Goes w p m1 m2 most ents xs tail K ad n c vt k [] := by
  have hf := hfine _ (List.getElem_mem hk)
  have ht := hf.time
  have hl3 := recs3_len xs[k]
  have hrs := recsS_le 300 (by omega) (recs3 xs[k]) (recs3_size xs[k] hf.path hf.link (by omega) (by omega))
  have hrs2 : (recs3 xs[k]).length * (300 + 23) ≤ 3 * (300 + 23) := Nat.mul_le_mul_right _ hl3
  have hgd := hdP_good (recsS (recs3 xs[k])).length (by omega)
  obtain ⟨r, hr, hrl⟩ := hdS_head hgd.fits 112 [97, 120] rfl
  have hl512 := hdS_len _ hgd.fits
  have hne1 : hdS (hdX xs[k] (secsOf xs[k].f4)) ++ (fillS xs[k].f5.data.toList ++ (bodyS (xs.drop (k + 1)) ++ tail)) ≠ [] := app_ne (app_ne (app_ne htail))
  rw [hrem] at hB ⊢
  have hrd := hB.drop_ (app_ne hne1)
  have hrt := hB.take_
  rw [hl512] at hrd hrt
  refine ⟨⟨112, r, _, by rw [hr], app_ne hne1, by decide, hrl, by rw [← hr]; exact hrt⟩, fun W rW => ?_⟩
  refine (one_pax rW hT hf _ hne1 hrd _ hrt).mono ?_
  rintro e w' ⟨rfl, hR⟩
  have hn := rb_len hrd
  rw [List.length_append] at hn
  have hn0 := rb_len hB
  rw [List.length_append, hl512] at hn0
  exact ⟨rfl, _, by omega, _, _, vt, k, _, _, hkK, hR, hrd.drop_ hne1, Nxt.ent hk⟩
/-- An entry's header: what stands there. -/
theorem St.head_ {w : World} {xs : List S44} {tail : Bytes} (htail : tail ≠ []) (hfine : ∀ x ∈ xs, Fine x) {ad : Addr} {n c : Nat} {k : Nat} {rem : Bytes}
    (hk : k < xs.length) (hrem : rem = hdS (hdX xs[k] (secsOf xs[k].f4)) ++ (fillS xs[k].f5.data.toList ++ (bodyS (xs.drop (k + 1)) ++ tail))) (hB : RB w (.slice (some ad) n c) rem) :
    HeadAt w ad c rem ∧ RB w (.slice (some (ad.add 512)) (n - 512) (c - 512)) (fillS xs[k].f5.data.toList ++ (bodyS (xs.drop (k + 1)) ++ tail)) ∧ RB w (.slice (some ad) 512 c) (hdS (hdX xs[k] (secsOf xs[k].f4))) ∧ n = 512 + (fillS xs[k].f5.data.toList ++ (bodyS (xs.drop (k + 1)) ++ tail)).length := by
  have hf := hfine _ (List.getElem_mem hk)
  obtain ⟨b, t, hbt⟩ : ∃ b t, xs[k].f1.data.toList = b :: t := List.exists_cons_of_ne_nil hf.ne1
  obtain ⟨r, hr, hrl⟩ := hdS_head hf.hd.fits b t hbt
  have hb0 : b ≠ 0 := hf.free1 b (by rw [hbt]; exact List.mem_cons_self ..)
  have hl512 := hdS_len _ hf.hd.fits
  have hne1 : bodyS (xs.drop (k + 1)) ++ tail ≠ [] := app_ne htail
  rw [hrem] at hB ⊢
  have hrd := hB.drop_ (app_ne hne1)
  have hrt := hB.take_
  rw [hl512] at hrd hrt
  have hn0 := rb_len hB
  rw [List.length_append, hl512] at hn0
  exact ⟨⟨b, r, _, by rw [hr], app_ne hne1, hb0, hrl, by rw [← hr]; exact hrt⟩, hrd, hrt, hn0⟩
/-- One round, of a header, where the limits suffice. -/
theorem St.step {w : World} (hT : Tabs w) {p m1 m2 : Nat} {most ents : Int} {xs : List S44} {tail : Bytes} (htail : tail ≠ []) (hfine : ∀ x ∈ xs, Fine x) (hlen : xs.length ≤ 1000) {K : Nat} (hK : K ≤ xs.length) (hlim : Lim xs most ents K) (hm2 : most ≤ 4611686018427387904)
    {ad : Addr} {n c : Nat} {vt : Value} {k : Nat} {nx : List KV} {rem : Bytes} (hB : RB w (.slice (some ad) n c) rem) (hN : Nxt xs tail k nx rem) (hk : k < K) :
    HeadAt w ad c rem ∧ Goes w p m1 m2 most ents xs tail K ad n c vt k nx := by
  have hkl : k < xs.length := by omega
  have hf := hfine _ (List.getElem_mem hkl)
  have hts : (xs.take k).length = k := by rw [List.length_take]; omega
  have hsum := sizeS_succ hkl
  obtain ⟨l1, l2⟩ := hlim k hk
  cases hN with
  | fin h => omega
  | ent h =>
    obtain ⟨h1, hrd, hrt, hn0⟩ := St.head_ htail hfine hkl rfl hB
    have hne1 : bodyS (xs.drop (k + 1)) ++ tail ≠ [] := app_ne htail
    refine ⟨h1, fun W rW => ?_⟩
    refine (one_x rW hT hf _ hne1 hrd _ hrt (by rw [hts]; omega) (by rw [hts]; omega) (by omega) (by omega)).mono ?_
    rintro e w' ⟨rfl, vt', hR⟩
    refine ⟨rfl, _, ?_, _, _, vt', k + 1, [], _, hk, ?_, hrd.drop_ hne1, Nxt.of xs tail (k + 1) hkl⟩
    · omega
    · rw [take_succ44 xs k hkl, show most - ((sizeS (xs.take k ++ [xs[k]]) : Nat) : Int) = most - (sizeS (xs.take k) : Int) - (xs[k].f5.size : Int) by rw [sizeS_app, sizeS_one]; push_cast; omega]
      exact hR
  | pax h => exact St.pax_ hT htail hfine hkl (by omega) rfl hB
/-- .. and where they do not: records are read still, an entry is not. -/
theorem St.last {w : World} (hT : Tabs w) {p m1 m2 : Nat} {most ents : Int} {xs : List S44} {tail : Bytes} (htail : tail ≠ []) (hfine : ∀ x ∈ xs, Fine x) {K : Nat} (hK : K < xs.length) (hov : ents ≤ (K : Int) ∨ most < (sizeS (xs.take (K + 1)) : Int))
    {ad : Addr} {n c : Nat} {vt : Value} {nx : List KV} {rem : Bytes} (hB : RB w (.slice (some ad) n c) rem) (hN : Nxt xs tail K nx rem) :
    HeadAt w ad c rem ∧ (Goes w p m1 m2 most ents xs tail K ad n c vt K nx ∨ Stops w p m1 m2 most ents xs ad n c vt K nx) := by
  have hf := hfine _ (List.getElem_mem hK)
  have hts : (xs.take K).length = K := by rw [List.length_take]; omega
  have hsum := sizeS_succ hK
  cases hN with
  | fin h => omega
  | ent h =>
    obtain ⟨h1, hrd, hrt, hn0⟩ := St.head_ htail hfine hK rfl hB
    refine ⟨h1, .inr fun W rW => ?_⟩
    exact one_x_over rW hT hf _ (app_ne htail) hrd _ hrt (by rw [hts]; omega)
  | pax h =>
    obtain ⟨h1, h2⟩ := St.pax_ (p := p) (m1 := m1) (m2 := m2) (most := most) (ents := ents) (vt := vt) (K := K) hT htail hfine hK (Nat.le_refl _) rfl hB
    exact ⟨h1, .inl h2⟩
end Go.Proofs.YtkmcbpkciakmeaaGreatDoor.PA

/- tarfmt.Read, of the bytes that a list of fine entries is written as, with limits that suffice: the entries, sorted, or what Check says of them. -/
set_option linter.unusedVariables false
set_option linter.unusedSimpArgs false
namespace Go.Proofs.YtkmcbpkciakmeaaGreatDoor.PA
open Go.RowKit Go.Proofs.YtkmcbpkciakmeaaGreatDoorW.PrintWords Go.Proofs.YtkmcbpkciakmeaaGreatDoorW.PrintLast Go.Proofs.YtkmcbpkciakmeaaGreatDoorW.PrintMore

/-- What Read hands back. -/
def ReadPost (w : World) (ys : List S44) (e : Ending) (w' : World) : Prop :=
  (if checkS ys = 0 then ∃ A c, e = .returned (.tuple #[.slice A ys.length c, .int .i64 0]) ∧ ys.length ≤ c ∧ Kd.C k44 w' A ys.length ys else e = .returned (.tuple #[.slice none 0 0, .int .i64 (checkS ys)])) ∧ Below w.heap.size w w'
theorem under54 : ∃ d, Tryz.prog.underlying 54 = some d := by
  have h : (Tryz.prog.underlying 54).isSome = true := by kernel_rfl
  exact Option.isSome_iff_exists.1 h
theorem RE.start (w : World) (vb : Value) (most ents : Int) : RE w (w.heap.size + 2) w.heap.size (w.heap.size + 1) vb (.slice none 0 0) most ents [] [] (((w.alloc (.map #[] 0)).alloc (.map #[] 0)).alloc (.cells #[vb, .slice none 0 0, .int .i64 most, .int .i64 ents, .map (some w.heap.size), .map (some (w.heap.size + 1)), .pointer none, .pointer none] 54 (0, 0))) := by
  have h1 : (w.alloc (.map #[] 0)).heap.size = w.heap.size + 1 := by simp
  have h2 : ((w.alloc (.map #[] 0)).alloc (.map #[] 0)).heap.size = w.heap.size + 2 := by simp
  have n1 := heap_alloc_new w (.map #[] 0)
  have n2 := heap_alloc_new (w.alloc (.map #[] 0)) (.map #[] 0)
  have n3 := heap_alloc_new ((w.alloc (.map #[] 0)).alloc (.map #[] 0)) (.cells #[vb, .slice none 0 0, .int .i64 most, .int .i64 ents, .map (some w.heap.size), .map (some (w.heap.size + 1)), .pointer none, .pointer none] 54 (0, 0))
  rw [h1] at n2
  rw [h2] at n3
  refine ⟨⟨below_alloc (below_alloc (below_alloc (Below.refl _ _) _) _) _, n3, ⟨#[], 0, ?_, rfl⟩, ⟨#[], 0, ?_, rfl⟩, by omega, by omega, by omega, by omega, by omega, by omega⟩, Kd.R_nil _ _ _ _ _⟩
  · rw [heap_alloc_old _ _ (by omega), heap_alloc_old _ _ (by omega)]; exact n1
  · rw [heap_alloc_old _ _ (by omega)]; exact n2

theorem RB.cap {w : World} {A : Option Addr} {n c : Nat} {l : Bytes} (h : RB w (.slice A n c) l) : n ≤ c := by
  obtain ⟨A', c', hv, h1, -⟩ := h
  injection hv with e1 e2 e3
  omega
theorem RE.readC {w0 : World} {p m1 m2 : Nat} {vb : Value} {A : Option Addr} {c : Nat} {most ents : Int} {nx : List KV} {xs : List S44} {W : World} (r : RE w0 p m1 m2 vb (.slice A xs.length c) most ents nx xs W) : Kd.C k44 W A xs.length xs ∧ xs.length ≤ c := by
  obtain ⟨A', c', hv, hc, hC⟩ := Kd.R_reads r.rows
  injection hv with e1 e2 e3
  subst e1 e3
  exact ⟨hC, hc⟩
theorem St.cell {w : World} {p m1 m2 : Nat} {most ents : Int} {xs : List S44} {tail : Bytes} {K n : Nat} {W : World} (h : St w p m1 m2 most ents xs tail K n W) : ∃ ad c, W.cell? ⟨p, 0, none⟩ = some (.slice (some ad) n c) := by
  obtain ⟨ad, c, vt, k, nx, rem, -, hR, -, -⟩ := h
  exact ⟨ad, c, hR.at_.cell 0⟩

set_option maxHeartbeats 4000000 in
set_option maxRecDepth 100000 in
theorem read_calls (v : Value) (xs ys : List S44) (more : Bytes) (most ents : Int) (w : World) (hT : Tabs w) (hv : RB w v (bodyS xs ++ (zeros 1024 ++ more))) (hfine : ∀ x ∈ xs, Fine x) (hlen : xs.length ≤ 1000) (hlim : Lim xs most ents xs.length) (hm2 : most ≤ 4611686018427387904)
    (hs : ∀ W A c, Below w.heap.size w W → Kd.C k44 W A xs.length xs → xs.length ≤ c → Calls Tryz.prog 30 #[.slice A xs.length c] W fun e w' => ∃ A' c', e = .returned (.slice A' ys.length c') ∧ ys.length ≤ c' ∧ Kd.C k44 w' A' ys.length ys ∧ Below W.heap.size W w')
    (hz : ∀ x ∈ ys, x.f1.size ≤ 1073741824 ∧ x.f2.size ≤ 1073741824 ∧ x.f5.size ≤ 9223372036854775807) :
    Calls Tryz.prog 14 #[v, .int .i64 most, .int .i64 ents] w (ReadPost w ys) := by
  have hpos : 0 < (bodyS xs ++ (zeros 1024 ++ more)).length := by rw [List.length_append, List.length_append, zeros_length]; omega
  obtain ⟨A, c0, rfl, -⟩ := id hv
  obtain ⟨-, -, ad, rfl, -⟩ := hv.cellsAt hpos
  have HV := Aside0.mk hv
  have HT := Aside0.mk hT
  have HF := Aside0.mk hfine
  have HS := Aside0.mk hs
  have HZ := Aside0.mk hz
  have HLIM := Aside0.mk hlim
  obtain ⟨n0, hn0⟩ : ∃ n0, n0 = (bodyS xs ++ (zeros 1024 ++ more)).length := ⟨_, rfl⟩
  rw [← hn0] at HV ⊢
  have HN0 := Aside0.mk hn0
  have S0 : Aside0 (St w (w.heap.size + 2) w.heap.size (w.heap.size + 1) most ents xs (zeros 1024 ++ more) xs.length n0 (((w.alloc (.map #[] 0)).alloc (.map #[] 0)).alloc (.cells #[.slice (some ad) n0 c0, .slice none 0 0, .int .i64 most, .int .i64 ents, .map (some w.heap.size), .map (some (w.heap.size + 1)), .pointer none, .pointer none] 54 (0, 0)))) :=
    ⟨ad, c0, .slice none 0 0, 0, [], _, by omega, by have := RE.start w (.slice (some ad) n0 c0) most ents; simpa [sizeS] using this, HV.out, Nxt.of xs _ 0 (by omega)⟩
  obtain ⟨p, hp⟩ : ∃ p, p = w.heap.size + 2 := ⟨_, rfl⟩
  clear hv hT hfine hs hz hn0 hpos hlim
  have hmk : ∀ W : World, (Instr.makeMap 51 none).run Tryz.prog W = .ok (.map (some W.heap.size)) (W.alloc (.map #[] 0)) := fun _ => rfl
  have HP := Aside0.mk hp
  clear hp
  go_enter Tryz.func14, Tryz.ntmps14
  go_wp2_with fail
  rw [← HP.out] at S0 ⊢
  go_loopw [] (fun wr => ∃ n, Aside0 (St w p w.heap.size (w.heap.size + 1) most ents xs (zeros 1024 ++ more) xs.length n wr)) (fun wr => match wr.cell? ⟨p, 0, none⟩ with | some (.slice _ n _) => n | _ => 0)
  case atStart => exact ⟨n0, S0⟩
  case round =>
    obtain ⟨n, hA⟩ := hrel
    obtain ⟨ad1, c1, vt, k, nx, rem, hkl, hR, hB, hN⟩ := hA.out
    have hnc : n ≤ c1 := hB.cap
    have hnl := rb_len hB
    have htl : zeros 1024 ++ more ≠ [] := by
      intro e
      have := congrArg List.length e
      rw [List.length_append, zeros_length] at this
      simp at this
    have HR := Aside0.mk hR
    obtain ⟨b0, -, -, -, -, -, -, -, bf⟩ := hR.cells
    have bf0 := bf 0
    obtain ⟨a2, ha2⟩ : ∃ a2, a2 = ad1.add 512 := ⟨_, rfl⟩
    have HA2 := Aside0.mk ha2
    obtain ⟨W1, hW1⟩ : ∃ W1, W1 = wr.setCell ⟨p, 0, none⟩ (.slice (some a2) (n - 512) (c1 - 512)) := ⟨_, rfl⟩
    have R1 := Aside0.mk (hR.setB (.slice (some a2) (n - 512) (c1 - 512)))
    rw [← hW1] at R1
    have HW1 := Aside0.mk hW1
    by_cases hk : k < xs.length
    · obtain ⟨⟨b, r, rest, hrem, hrne, hb0, hrl, hRB⟩, h29⟩ := St.step (p := p) (m1 := w.heap.size) (m2 := w.heap.size + 1) (vt := vt) HT.out htl HF.out hlen (Nat.le_refl _) HLIM.out hm2 hB hN hk
      unfold Goes at h29
      rw [← ha2] at h29
      have hn : 512 < n := by
        rw [hnl, hrem, List.length_append, List.length_cons, hrl]
        have := List.length_pos_iff.2 hrne
        omega
      have hnf : ¬ ((n : Int) < 512) := by omega
      have hsl1 : ∀ W, (Instr.slice 25 (.slice (some ad1) n c1) none (some (.int .i64 512)) none).run Tryz.prog W = .ok (.slice (some ad1) 512 c1) W := fun W => run_to ad1 n c1 512 (by omega) hnc W
      have hsl2 : ∀ W, (Instr.slice 25 (.slice (some ad1) n c1) (some (.int .i64 512)) none none).run Tryz.prog W = .ok (.slice (some a2) (n - 512) (c1 - 512)) W := fun W => by rw [ha2]; exact run_from ad1 n c1 512 (by omega) hnc W
      have h28 : ∀ W, Below w.heap.size w W → Calls Tryz.prog 28 #[.slice (some ad1) 512 c1] W fun e w' => e = .returned (.bool false) ∧ Below W.heap.size W w' := fun W hW => empty_not _ b r W (hRB.below hW) (by omega) hb0
      have H28 := Aside0.mk h28
      have H29 := Aside0.mk h29
      clear ha2 h28 h29 hA hR hB hN hnl hrem hRB hrl hW1 htl bf
      go_wp2_with (first | (go_at_call 28; rw [← HW1.out]; refine (H28.out _ R1.out.at_.below).mono ?_; rintro e w2 ⟨rfl, hb2⟩; have R2 := Aside0.mk (R1.out.then_ hb2)) | (go_at_call 29; refine (H29.out _ R2.out).mono ?_; rintro e w3 ⟨rfl, n', hn', hS'⟩; have HS' := Aside0.mk hS'; clear hS'))
      go_roundw
      case rel => exact ⟨n', HS'⟩
      case measure =>
        obtain ⟨ad', c', hc'⟩ := HS'.out.cell
        rw [hc', b0]
        exact hn'
    · have hke : k = xs.length := by omega
      have hrem : nx = [] ∧ rem = zeros 1024 ++ more := by
        cases hN with
        | fin h => exact ⟨rfl, rfl⟩
        | ent h => exact absurd h hk
        | pax h => exact absurd h hk
      obtain ⟨rfl, rfl⟩ := hrem
      have hz2 : zeros 1024 ++ more = zeros 512 ++ (zeros 512 ++ more) := by
        rw [← List.append_assoc]
        congr 1
      have hl512 : (zeros 512).length = 512 := zeros_length _
      have hn : 1024 ≤ n := by rw [hnl, List.length_append, zeros_length]; omega
      have hnf : ¬ ((n : Int) < 512) := by omega
      have hnf2 : ¬ (((n - 512 : Nat) : Int) < 512) := by omega
      rw [hz2] at hB
      have hB1 := hB.take_
      have hB2 := hB.drop_ (b := zeros 512 ++ more) (by intro e; have := congrArg List.length e; rw [List.length_append, zeros_length] at this; simp at this)
      rw [hl512] at hB1 hB2
      have hB3 := hB2.take_
      rw [hl512, ← ha2] at hB3
      have hsl1 : ∀ W, (Instr.slice 25 (.slice (some ad1) n c1) none (some (.int .i64 512)) none).run Tryz.prog W = .ok (.slice (some ad1) 512 c1) W := fun W => run_to ad1 n c1 512 (by omega) hnc W
      have hsl2 : ∀ W, (Instr.slice 25 (.slice (some ad1) n c1) (some (.int .i64 512)) none none).run Tryz.prog W = .ok (.slice (some a2) (n - 512) (c1 - 512)) W := fun W => by rw [ha2]; exact run_from ad1 n c1 512 (by omega) hnc W
      have hsl3 : ∀ W, (Instr.slice 25 (.slice (some a2) (n - 512) (c1 - 512)) none (some (.int .i64 512)) none).run Tryz.prog W = .ok (.slice (some a2) 512 (c1 - 512)) W := fun W => run_to a2 (n - 512) (c1 - 512) 512 (by omega) (by omega) W
      have hzz : ∀ b ∈ zeros 512, b = 0 := fun b hb => (List.mem_replicate.1 hb).2
      have h28a : ∀ W, Below w.heap.size w W → Calls Tryz.prog 28 #[.slice (some ad1) 512 c1] W fun e w' => e = .returned (.bool true) ∧ Below W.heap.size W w' := fun W hW => empty_zero _ (zeros 512) W (hB1.below hW) (by omega) (by omega) hzz
      have h28b : ∀ W, Below w.heap.size w W → Calls Tryz.prog 28 #[.slice (some a2) 512 (c1 - 512)] W fun e w' => e = .returned (.bool true) ∧ Below W.heap.size W w' := fun W hW => empty_zero _ (zeros 512) W (hB3.below hW) (by omega) (by omega) hzz
      have H28a := Aside0.mk h28a
      have H28b := Aside0.mk h28b
      have htk : xs.take k = xs := List.take_of_length_le (by omega)
      rw [htk] at R1
      have h31 : ∀ W A c, Below w.heap.size w W → Kd.C k44 W A ys.length ys → ys.length ≤ c → Calls Tryz.prog 31 #[.slice A ys.length c] W fun e w' => e = .returned (.int .i64 (checkS ys)) ∧ Below W.heap.size W w' := fun W A c hW hC hc => check_calls A c ys W (HT.out.below hW) hC hc HZ.out
      have H31 := Aside0.mk h31
      obtain ⟨E, hE⟩ : ∃ E, E = checkS ys := ⟨_, rfl⟩
      rw [← hE] at H31
      have HE := Aside0.mk hE
      obtain ⟨A2, c2, rfl, hc2, hC2⟩ := Kd.R_reads R1.out.rows
      have HC2 := Aside0.mk hC2
      clear ha2 h28a h28b h31 hA hR hB hN hnl hW1 htl bf hB1 hB2 hB3 hz2 hl512 hzz htk hE hC2 hke HR
      by_cases he0 : E = 0
      · have te : (E != 0) = false := by rw [he0]; rfl
        have HE0 := Aside0.mk he0
        clear he0
        go_wp2_with (first | (go_at_call 28; rw [← HW1.out]; refine (H28a.out _ R1.out.at_.below).mono ?_; rintro e w2 ⟨rfl, hb2⟩; have R2 := Aside0.mk (R1.out.then_ hb2); obtain ⟨d0, d1, -⟩ := R2.out.cells) | (go_at_call 28; refine (H28b.out _ R2.out.at_.below).mono ?_; rintro e w3 ⟨rfl, hb3⟩; have R3 := Aside0.mk (R2.out.then_ hb3); obtain ⟨-, f1, -⟩ := R3.out.cells) | (go_at_call 30; refine (HS.out w3 A2 c2 R3.out.at_.below R3.out.readC.1 R3.out.readC.2).mono ?_; rintro e w4 ⟨A4, c4, rfl, hc4, hC4, hb4⟩; have B4 := Aside0.mk (below_then R3.out.at_.below R3.out.at_.below.size hb4)) | (go_at_call 31; refine (H31.out _ _ _ B4.out hC4 hc4).mono ?_; rintro e w5 ⟨rfl, hb5⟩))
        go_ret2
        unfold ReadPost
        rw [if_pos (HE.out.symm.trans HE0.out)]
        exact ⟨⟨A4, c4, rfl, hc4, Kd.C_below hC4 hb5⟩, below_then B4.out B4.out.size hb5⟩
      · have te : (E != 0) = true := by rw [bne_iff_ne]; exact he0
        have HE0 := Aside0.mk he0
        clear he0
        go_wp2_with (first | (go_at_call 28; rw [← HW1.out]; refine (H28a.out _ R1.out.at_.below).mono ?_; rintro e w2 ⟨rfl, hb2⟩; have R2 := Aside0.mk (R1.out.then_ hb2); obtain ⟨d0, d1, -⟩ := R2.out.cells) | (go_at_call 28; refine (H28b.out _ R2.out.at_.below).mono ?_; rintro e w3 ⟨rfl, hb3⟩; have R3 := Aside0.mk (R2.out.then_ hb3); obtain ⟨-, f1, -⟩ := R3.out.cells) | (go_at_call 30; refine (HS.out w3 A2 c2 R3.out.at_.below R3.out.readC.1 R3.out.readC.2).mono ?_; rintro e w4 ⟨A4, c4, rfl, hc4, hC4, hb4⟩; have B4 := Aside0.mk (below_then R3.out.at_.below R3.out.at_.below.size hb4)) | (go_at_call 31; refine (H31.out _ _ _ B4.out hC4 hc4).mono ?_; rintro e w5 ⟨rfl, hb5⟩))
        go_ret2
        unfold ReadPost
        rw [if_neg (fun h => HE0.out (HE.out.trans h)), ← HE.out]
        exact ⟨rfl, below_then B4.out B4.out.size hb5⟩
end Go.Proofs.YtkmcbpkciakmeaaGreatDoor.PA
