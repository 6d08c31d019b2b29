/- A header, and what stands behind it, is read. -/
import Derived.Test.YtkmcbpkciakmeaaGreatDoorMstate
import Derived.Test.YtkmcbpkciakmeaaGreatDoorMparsed
import Derived.Deep.QuietTactic
import Derived.BigQuiet
import Derived.BigRegion
import Derived.Deep.RegionWith
import Derived.Deep.RegionLaw
import Derived.Deep.CutBlock

/- (*tarfmt.reader).one: a header that was written, and what stands behind it. -/
set_option linter.unusedVariables false
set_option linter.unusedSimpArgs false
namespace Go.Proofs.YtkmcbpkciakmeaaGreatDoor.PA
open Go.RowKit Go.Proofs.YtkmcbpkciakmeaaGreatDoorW.PrintWords Go.Proofs.YtkmcbpkciakmeaaGreatDoorW.PrintLast Go.Proofs.YtkmcbpkciakmeaaGreatDoorW.PrintMore
attribute [local go_sem] max2_int min2_int max_two min_two

theorem RB.from_ {w : World} {ad : Addr} {n c : Nat} {l : Bytes} (h : RB w (.slice (some ad) n c) l) (k : Nat) (hk : k < n) : RB w (.slice (some (ad.add k)) (n - k) (c - k)) (l.drop k) := by
  obtain ⟨A', c', hv, -⟩ := id h
  injection hv with e1 e2 e3
  have := h.mid k l.length (by omega) (Nat.le_refl _)
  rw [← e2] at this
  rwa [show seg l k n = l.drop k from by unfold seg; rw [List.take_of_length_le (by omega)]] at this
theorem run_from (ad : Addr) (n c k : Nat) (hk : k < n) (hc : n ≤ c) (W : World) : (Instr.slice 25 (.slice (some ad) n c) (some (.int .i64 k)) none none).run Tryz.prog W = .ok (.slice (some (ad.add k)) (n - k) (c - k)) W := by
  obtain ⟨i, hi5, hz, hs1, hs2⟩ := info5_parts
  have := cut_from 25 5 .i64 Tryz.underlying25 hi5 1 hs1 (some ad) n c (k : Int) (by omega) (by omega) W
  rw [this, if_neg (by rw [Int.toNat_natCast]; omega)]
  simp
theorem run_to (ad : Addr) (n c k : Nat) (hk : k ≤ n) (hc : n ≤ c) (W : World) : (Instr.slice 25 (.slice (some ad) n c) none (some (.int .i64 k)) none).run Tryz.prog W = .ok (.slice (some ad) k c) W := by
  obtain ⟨i, hi5, hz, hs1, hs2⟩ := info5_parts
  have := cut_to 25 5 .i64 Tryz.underlying25 hi5 (some ad) n c (k : Int) (by omega) (by omega) hc W
  rw [this, Int.toNat_natCast]
structure OnAt (w0 : World) (p m1 m2 : Nat) (vb vt : Value) (most ents : Int) (nx : List KV) (xs : List S44) (g : Nat) (H : Hd) (W : World) : Prop where
  re : RE w0 p m1 m2 vb vt most ents nx xs W
  hb : W.heap[g]? = some (.cells #[.string H.name, .string H.link, .int .i64 H.mode, .int .i64 H.size, .int .i64 H.time, .int .u8 H.kind.toNat] 80 (0, 0))
theorem OnAt.setB {w0 : World} {p m1 m2 : Nat} {vb vt : Value} {most ents : Int} {nx : List KV} {xs : List S44} {g : Nat} {H : Hd} {W : World} (o : OnAt w0 p m1 m2 vb vt most ents nx xs g H W) (v : Value) : OnAt w0 p m1 m2 v vt most ents nx xs g H (W.setCell ⟨p, 0, none⟩ v) := by
  refine ⟨o.re.setB v, (Below.heap_setCell _ _ _ _ ?_).trans o.hb⟩
  rintro rfl
  have h := o.hb
  rw [o.re.at_.blk] at h
  injection h with h
  injection h with _ h
  exact absurd h (by decide)
theorem OnAt.then_ {w0 : World} {p m1 m2 : Nat} {vb vt : Value} {most ents : Int} {nx : List KV} {xs : List S44} {g : Nat} {H : Hd} {W W' : World} (o : OnAt w0 p m1 m2 vb vt most ents nx xs g H W) (hb : Below W.heap.size W W') : OnAt w0 p m1 m2 vb vt most ents nx xs g H W' := ⟨o.re.then_ hb, (hb.block _ (blk_lt o.hb)).trans o.hb⟩
theorem OnAt.new {w0 : World} {p m1 m2 : Nat} {vb vt : Value} {most ents : Int} {nx : List KV} {xs : List S44} {W : World} (r : RE w0 p m1 m2 vb vt most ents nx xs W) (H : Hd) : OnAt w0 p m1 m2 vb vt most ents nx xs W.heap.size H (W.alloc (.cells #[.string H.name, .string H.link, .int .i64 H.mode, .int .i64 H.size, .int .i64 H.time, .int .u8 H.kind.toNat] 80)) := ⟨r.then_ (below_alloc (Below.refl _ _) _), heap_alloc_new W _⟩
theorem u8_eqF' {k b : UInt8} (h : k ≠ b) : ((k.toNat : Int) == (b.toNat : Int)) = false := by
  rw [beq_eq_false_iff_ne]; intro e; exact h (UInt8.toNat_inj.1 (by omega))

set_option maxHeartbeats 4000000 in
set_option maxRecDepth 100000 in
theorem one_entry {w0 : World} {p m1 m2 : Nat} {ad : Addr} {n c : Nat} {vt : Value} {most ents : Int} {nx : List KV} {xs : List S44} {w : World} (r : RE w0 p m1 m2 (.slice (some ad) n c) vt most ents nx xs w) (hT : Tabs w0) (l : Bytes) (hB : RB w0 (.slice (some ad) n c) l)
    (h : Hd) (v : Value) (hv : RB w0 v (hdS h)) (hg : HdGood h) (hs : h.size ≤ 8589934591) (hsn : h.size ≤ n) (k : Nat) (hk : k = min ((h.size + 511) / 512 * 512) n) (hkn : k < n) (hz : getS nx kSize = none)
    (hkd : h.kind = 48 ∨ ((h.kind = 53 ∨ h.kind = 50) ∧ h.size = 0))
    (Q : Int → World → Prop) (hq : ∀ W, RE w0 p m1 m2 (.slice (some (ad.add k)) (n - k) (c - k)) vt most ents nx xs W → Calls Tryz.prog 58 #[.pointer (some ⟨p, 0, none⟩), hdV (rdH h), .string (str (l.take h.size))] W fun e w' => ∃ x, e = .returned (.int .i64 x) ∧ Q x w') :
    Calls Tryz.prog 29 #[.pointer (some ⟨p, 0, none⟩), v] w fun e w' => ∃ x, e = .returned (.int .i64 x) ∧ Q x w' := by
  have hwb := r.at_.below
  have hn63 : n ≤ 9223372036854775807 ∧ n ≤ c := by
    obtain ⟨A', c', hv', h1, h2, -⟩ := hB
    injection hv' with e1 e2 e3
    omega
  obtain ⟨hn63, hnc⟩ := hn63
  have hnl : n = l.length := by
    obtain ⟨A', c', hv', -⟩ := hB
    injection hv' with e1 e2 e3
  have h54 := parsed_calls h hg v w (hv.below hwb)
  obtain ⟨H, hH⟩ : ∃ H, H = rdH h := ⟨_, rfl⟩
  have hms : H.size = h.size := by rw [hH]; rfl
  have hmk : H.kind = h.kind := by rw [hH]; rfl
  rw [← hms] at hs hsn hk hq
  try rw [← hms] at hkd
  rw [← hmk] at hkd
  rw [← hH] at h54
  try rw [← hH] at hq
  have H54 := Aside0.mk h54
  clear hms hmk h54 hH hg hv
  have H55 : ∀ W, Below w.heap.size w W → Calls Tryz.prog 55 #[.pointer (some ⟨p, 0, none⟩), .string ⟨#[115, 105, 122, 101]⟩] W fun e w' => e = .returned (.tuple #[.string ⟨#[]⟩, .bool false]) ∧ w' = W := fun W hW => by
    have := record_calls (r.at_.then_ hW) kSize
    rwa [hz] at this
  have h55 := Aside0.mk H55
  have HR := Aside0.mk r
  have HB := Aside0.mk hB
  have HT := Aside0.mk hT
  have HQ := Aside0.mk hq
  have hqd : Int.tdiv ((H.size : Int) + 512 - 1) 512 = (((H.size + 511) / 512 : Nat) : Int) := by
    rw [Int.tdiv_eq_ediv_of_nonneg (by omega)]; omega
  have hqm : wrap64 ((((H.size + 511) / 512 : Nat) : Int) * 512) = (((H.size + 511) / 512 * 512 : Nat) : Int) := by
    rw [wrap64_in _ (by omega)]; push_cast; rfl
  have hmin : (if (n : Int) < (((H.size + 511) / 512 * 512 : Nat) : Int) then (n : Int) else (((H.size + 511) / 512 * 512 : Nat) : Int)) = (k : Int) := by
    split <;> omega
  have hsl1 := fun W => run_to ad n c H.size hsn hnc W
  have hsl2 := fun W => run_from ad n c k hkn hnc W
  have HK := Aside0.mk hk
  have HNL := Aside0.mk hnl
  clear r hT hB hq hz hk H55 hnl
  obtain ⟨N, L, mo, sz, ti, kd⟩ := H
  simp only [hdV] at *
  obtain ⟨q, hqq⟩ : ∃ q, q = (sz + 511) / 512 := ⟨_, rfl⟩
  rw [← hqq] at hqd hqm hmin
  have HQQ := Aside0.mk hqq
  clear hqq
  go_enter Tryz.func29, Tryz.ntmps29
  have f0 : ¬ ((sz : Int) < 0) := by omega
  have f1 : ¬ ((1099511627776 : Int) < (sz : Int)) := by omega
  have f2 : ¬ ((n : Int) < (sz : Int)) := by omega
  obtain ⟨F, hF⟩ : ∃ F, F = ((kd.toNat : Int) == 48 || (kd.toNat : Int) == 0) := ⟨_, rfl⟩
  have hF2 : ((kd.toNat : Int) == 48) = true ∨ (((kd.toNat : Int) == 48) = false ∧ ((kd.toNat : Int) == 0) = false) := by
    by_cases e : kd = 48
    · exact .inl (by rw [e]; rfl)
    · refine .inr ⟨u8_eqF' e, u8_eqF' (b := 0) ?_⟩
      rintro rfl
      rcases hkd with h | ⟨h | h, -⟩ <;> exact absurd h (by decide)
  have HKD := Aside0.mk hkd
  clear hkd hF
  rcases hF2 with t48 | ⟨t48, t0⟩
  all_goals
    go_wp2_with (first | (go_at_call 54; refine (H54.out).mono ?_; rintro e w1 ⟨rfl, hb1⟩; have O1 := Aside0.mk (OnAt.new (HR.out.then_ hb1) ⟨N, L, mo, sz, ti, kd⟩); have B1 := Aside0.mk (below_alloc hb1 (Obj.cells #[.string N, .string L, .int .i64 mo, .int .i64 sz, .int .i64 ti, .int .u8 kd.toNat] 80)); have hg1 : w.heap.size ≤ w1.heap.size := hb1.size; obtain ⟨W1, hW1⟩ : ∃ W1, W1 = w1.alloc (Obj.cells #[.string N, .string L, .int .i64 mo, .int .i64 sz, .int .i64 ti, .int .u8 kd.toNat] 80) := ⟨_, rfl⟩; have HW1 := Aside0.mk hW1; clear hW1) | (go_at_call 55; refine (h55.out _ B1.out).mono ?_; rintro e w2 ⟨rfl, rfl⟩))
    rw [← HW1.out] at O1 B1 ⊢
    obtain ⟨b0, -, -, -, -, -, -, -, bf⟩ := O1.out.re.cells
    have g3 : W1.cell? ⟨w1.heap.size, 3, none⟩ = some (.int .i64 sz) := by rw [cell_of_row W1 _ 3 _ 80 (0, 0) O1.out.hb]; rfl
    go_quiet (fail)
    have O2 := Aside0.mk (O1.out.then_ (pw_below_drewN (Below.refl _ _) nq))
    generalize W1.drewN nq = W2 at *
    clear b0 bf g3
    obtain ⟨b0, -, -, -, -, -, -, -, bf⟩ := O2.out.re.cells
    have g3 : W2.cell? ⟨w1.heap.size, 3, none⟩ = some (.int .i64 sz) := by rw [cell_of_row W2 _ 3 _ 80 (0, 0) O2.out.hb]; rfl
    go_wp2_with fail
    go_quiet (fail)
    have O3 := Aside0.mk (O2.out.then_ (pw_below_drewN (Below.refl _ _) nq))
    generalize W2.drewN nq = W3 at *
    clear b0 bf g3
    obtain ⟨b0, -, -, -, -, -, -, -, bf⟩ := O3.out.re.cells
    have bf0 := bf 0
    have g3 : W3.cell? ⟨w1.heap.size, 3, none⟩ = some (.int .i64 sz) := by rw [cell_of_row W3 _ 3 _ 80 (0, 0) O3.out.hb]; rfl
    obtain ⟨g, hg⟩ : ∃ g, g = w1.heap.size := ⟨_, rfl⟩
    rw [← hg] at O3 g3 ⊢
    have HG := Aside0.mk hg
    clear O1 O2 hg1 bf hg
    go_upto_region 11 with fail
    go_cut [] (fun wx => Aside0 (OnAt w0 p m1 m2 (.slice (some (ad.add k)) (n - k) (c - k)) vt most ents nx xs g ⟨N, L, mo, sz, ti, kd⟩ wx))
    case first =>
      go_region
      all_goals
        try go_wp2_with fail
        go_meet
        have kq : k = q * 512 := by have := HK.out; have := HQQ.out; omega
        rw [kq]
        exact ⟨(O3.out.setB _).then_ (below_drew (Below.refl _ _))⟩
    case rest =>
      have O5 := hcut
      clear O3 b0 bf0 g3
      have g0 : wc.cell? ⟨g, 0, none⟩ = some (.string N) := by rw [cell_of_row wc _ 0 _ 80 (0, 0) O5.out.hb]; rfl
      have g1 : wc.cell? ⟨g, 1, none⟩ = some (.string L) := by rw [cell_of_row wc _ 1 _ 80 (0, 0) O5.out.hb]; rfl
      have g2 : wc.cell? ⟨g, 2, none⟩ = some (.int .i64 mo) := by rw [cell_of_row wc _ 2 _ 80 (0, 0) O5.out.hb]; rfl
      have g3 : wc.cell? ⟨g, 3, none⟩ = some (.int .i64 sz) := by rw [cell_of_row wc _ 3 _ 80 (0, 0) O5.out.hb]; rfl
      have g4 : wc.cell? ⟨g, 4, none⟩ = some (.int .i64 ti) := by rw [cell_of_row wc _ 4 _ 80 (0, 0) O5.out.hb]; rfl
      have g5 : wc.cell? ⟨g, 5, none⟩ = some (.int .u8 kd.toNat) := by rw [cell_of_row wc _ 5 _ 80 (0, 0) O5.out.hb]; rfl
      have hcv : (convert 25 9 (.slice (some ad) sz c)).run Tryz.prog wc = .ok (.string (str (l.take sz))) wc := conv_string ((HB.out.below O5.out.re.at_.below).take sz (by have := HNL.out; omega))
      first
        | (have ekd : kd = 48 := UInt8.toNat_inj.1 (by have : (kd.toNat : Int) = 48 := by (rw [← beq_iff_eq]; exact t48)
                                                       show kd.toNat = 48; omega)
           have r120 : ((kd.toNat : Int) == 120) = false := by rw [ekd]; rfl
           have r103 : ((kd.toNat : Int) == 103) = false := by rw [ekd]; rfl
           have r76 : ((kd.toNat : Int) == 76) = false := by rw [ekd]; rfl
           have r75 : ((kd.toNat : Int) == 75) = false := by rw [ekd]; rfl
           have r53 : ((kd.toNat : Int) == 53) = false := by rw [ekd]; rfl
           have r50 : ((kd.toNat : Int) == 50) = false := by rw [ekd]; rfl
           clear ekd
           go_wp2_with (first | (go_at_call 58; refine (HQ.out _ O5.out.re).mono ?_; rintro e w6 ⟨x, rfl, hqx⟩))
           go_ret
           exact ⟨x, rfl, hqx⟩)
        | (rcases HKD.out with h48 | ⟨hkd, hsz⟩
           · exfalso; rw [h48] at t48; exact absurd t48 (by decide)
           · have z0 : ¬ ((0 : Int) < (sz : Int)) := by omega
             clear hsz
             rcases hkd with ekd | ekd
             all_goals
               have r120 : ((kd.toNat : Int) == 120) = false := by rw [ekd]; rfl
               have r103 : ((kd.toNat : Int) == 103) = false := by rw [ekd]; rfl
               have r76 : ((kd.toNat : Int) == 76) = false := by rw [ekd]; rfl
               have r75 : ((kd.toNat : Int) == 75) = false := by rw [ekd]; rfl
               have r53 : ((kd.toNat : Int) == 53) = true ∨ (((kd.toNat : Int) == 53) = false ∧ ((kd.toNat : Int) == 50) = true) := by rw [ekd]; decide
               clear ekd
               rcases r53 with r53 | ⟨r53, r50⟩
             all_goals
               go_wp2_with (first | (go_at_call 58; refine (HQ.out _ O5.out.re).mono ?_; rintro e w6 ⟨x, rfl, hqx⟩))
               go_ret
               exact ⟨x, rfl, hqx⟩)

set_option maxHeartbeats 4000000 in
set_option maxRecDepth 100000 in
theorem one_keep {w0 : World} {p m1 m2 : Nat} {ad : Addr} {n c : Nat} {vt : Value} {most ents : Int} {nx : List KV} {xs : List S44} {w : World} (r : RE w0 p m1 m2 (.slice (some ad) n c) vt most ents nx xs w) (hT : Tabs w0) (l : Bytes) (hB : RB w0 (.slice (some ad) n c) l)
    (h : Hd) (v : Value) (hv : RB w0 v (hdS h)) (hg : HdGood h) (hs : h.size ≤ 8589934591) (hsn : h.size ≤ n) (k : Nat) (hk : k = min ((h.size + 511) / 512 * 512) n) (hkn : k < n) (hz : getS nx kSize = none)
    (hkd : h.kind = 120)
    (Q : Int → World → Prop) (hq : ∀ W, RE w0 p m1 m2 (.slice (some (ad.add k)) (n - k) (c - k)) vt most ents nx xs W → Calls Tryz.prog 56 #[.map (some m1), .slice (some ad) h.size c] W fun e w' => ∃ x, e = .returned (.int .i64 x) ∧ Q x w') :
    Calls Tryz.prog 29 #[.pointer (some ⟨p, 0, none⟩), v] w fun e w' => ∃ x, e = .returned (.int .i64 x) ∧ Q x w' := by
  have hwb := r.at_.below
  have hn63 : n ≤ 9223372036854775807 ∧ n ≤ c := by
    obtain ⟨A', c', hv', h1, h2, -⟩ := hB
    injection hv' with e1 e2 e3
    omega
  obtain ⟨hn63, hnc⟩ := hn63
  have hnl : n = l.length := by
    obtain ⟨A', c', hv', -⟩ := hB
    injection hv' with e1 e2 e3
  have h54 := parsed_calls h hg v w (hv.below hwb)
  obtain ⟨H, hH⟩ : ∃ H, H = rdH h := ⟨_, rfl⟩
  have hms : H.size = h.size := by rw [hH]; rfl
  have hmk : H.kind = h.kind := by rw [hH]; rfl
  rw [← hms] at hs hsn hk hq
  try rw [← hms] at hkd
  rw [← hmk] at hkd
  rw [← hH] at h54
  try rw [← hH] at hq
  have H54 := Aside0.mk h54
  clear hms hmk h54 hH hg hv
  have H55 : ∀ W, Below w.heap.size w W → Calls Tryz.prog 55 #[.pointer (some ⟨p, 0, none⟩), .string ⟨#[115, 105, 122, 101]⟩] W fun e w' => e = .returned (.tuple #[.string ⟨#[]⟩, .bool false]) ∧ w' = W := fun W hW => by
    have := record_calls (r.at_.then_ hW) kSize
    rwa [hz] at this
  have h55 := Aside0.mk H55
  have HR := Aside0.mk r
  have HB := Aside0.mk hB
  have HT := Aside0.mk hT
  have HQ := Aside0.mk hq
  have hqd : Int.tdiv ((H.size : Int) + 512 - 1) 512 = (((H.size + 511) / 512 : Nat) : Int) := by
    rw [Int.tdiv_eq_ediv_of_nonneg (by omega)]; omega
  have hqm : wrap64 ((((H.size + 511) / 512 : Nat) : Int) * 512) = (((H.size + 511) / 512 * 512 : Nat) : Int) := by
    rw [wrap64_in _ (by omega)]; push_cast; rfl
  have hmin : (if (n : Int) < (((H.size + 511) / 512 * 512 : Nat) : Int) then (n : Int) else (((H.size + 511) / 512 * 512 : Nat) : Int)) = (k : Int) := by
    split <;> omega
  have hsl1 := fun W => run_to ad n c H.size hsn hnc W
  have hsl2 := fun W => run_from ad n c k hkn hnc W
  have HK := Aside0.mk hk
  have HNL := Aside0.mk hnl
  clear r hT hB hq hz hk H55 hnl
  obtain ⟨N, L, mo, sz, ti, kd⟩ := H
  simp only [hdV] at *
  obtain ⟨q, hqq⟩ : ∃ q, q = (sz + 511) / 512 := ⟨_, rfl⟩
  rw [← hqq] at hqd hqm hmin
  have HQQ := Aside0.mk hqq
  clear hqq
  go_enter Tryz.func29, Tryz.ntmps29
  have f0 : ¬ ((sz : Int) < 0) := by omega
  have f1 : ¬ ((1099511627776 : Int) < (sz : Int)) := by omega
  have f2 : ¬ ((n : Int) < (sz : Int)) := by omega
  obtain ⟨F, hF⟩ : ∃ F, F = ((kd.toNat : Int) == 48 || (kd.toNat : Int) == 0) := ⟨_, rfl⟩
  have hF2 : ((kd.toNat : Int) == 48) = true ∨ (((kd.toNat : Int) == 48) = false ∧ ((kd.toNat : Int) == 0) = false) := by
    by_cases e : kd = 48
    · exact .inl (by rw [e]; rfl)
    · refine .inr ⟨u8_eqF' e, u8_eqF' (b := 0) ?_⟩
      rintro rfl
      exact absurd hkd (by decide)
  have HKD := Aside0.mk hkd
  clear hkd hF
  rcases hF2 with t48 | ⟨t48, t0⟩
  all_goals
    go_wp2_with (first | (go_at_call 54; refine (H54.out).mono ?_; rintro e w1 ⟨rfl, hb1⟩; have O1 := Aside0.mk (OnAt.new (HR.out.then_ hb1) ⟨N, L, mo, sz, ti, kd⟩); have B1 := Aside0.mk (below_alloc hb1 (Obj.cells #[.string N, .string L, .int .i64 mo, .int .i64 sz, .int .i64 ti, .int .u8 kd.toNat] 80)); have hg1 : w.heap.size ≤ w1.heap.size := hb1.size; obtain ⟨W1, hW1⟩ : ∃ W1, W1 = w1.alloc (Obj.cells #[.string N, .string L, .int .i64 mo, .int .i64 sz, .int .i64 ti, .int .u8 kd.toNat] 80) := ⟨_, rfl⟩; have HW1 := Aside0.mk hW1; clear hW1) | (go_at_call 55; refine (h55.out _ B1.out).mono ?_; rintro e w2 ⟨rfl, rfl⟩))
    rw [← HW1.out] at O1 B1 ⊢
    obtain ⟨b0, -, -, -, -, -, -, -, bf⟩ := O1.out.re.cells
    have g3 : W1.cell? ⟨w1.heap.size, 3, none⟩ = some (.int .i64 sz) := by rw [cell_of_row W1 _ 3 _ 80 (0, 0) O1.out.hb]; rfl
    go_quiet (fail)
    have O2 := Aside0.mk (O1.out.then_ (pw_below_drewN (Below.refl _ _) nq))
    generalize W1.drewN nq = W2 at *
    clear b0 bf g3
    obtain ⟨b0, -, -, -, -, -, -, -, bf⟩ := O2.out.re.cells
    have g3 : W2.cell? ⟨w1.heap.size, 3, none⟩ = some (.int .i64 sz) := by rw [cell_of_row W2 _ 3 _ 80 (0, 0) O2.out.hb]; rfl
    go_wp2_with fail
    go_quiet (fail)
    have O3 := Aside0.mk (O2.out.then_ (pw_below_drewN (Below.refl _ _) nq))
    generalize W2.drewN nq = W3 at *
    clear b0 bf g3
    obtain ⟨b0, -, -, -, -, -, -, -, bf⟩ := O3.out.re.cells
    have bf0 := bf 0
    have g3 : W3.cell? ⟨w1.heap.size, 3, none⟩ = some (.int .i64 sz) := by rw [cell_of_row W3 _ 3 _ 80 (0, 0) O3.out.hb]; rfl
    obtain ⟨g, hg⟩ : ∃ g, g = w1.heap.size := ⟨_, rfl⟩
    rw [← hg] at O3 g3 ⊢
    have HG := Aside0.mk hg
    clear O1 O2 hg1 bf hg
    go_upto_region 11 with fail
    go_cut [] (fun wx => Aside0 (OnAt w0 p m1 m2 (.slice (some (ad.add k)) (n - k) (c - k)) vt most ents nx xs g ⟨N, L, mo, sz, ti, kd⟩ wx))
    case first =>
      go_region
      all_goals
        try go_wp2_with fail
        go_meet
        have kq : k = q * 512 := by have := HK.out; have := HQQ.out; omega
        rw [kq]
        exact ⟨(O3.out.setB _).then_ (below_drew (Below.refl _ _))⟩
    case rest =>
      have O5 := hcut
      clear O3 b0 bf0 g3
      have g5 : wc.cell? ⟨g, 5, none⟩ = some (.int .u8 kd.toNat) := by rw [cell_of_row wc _ 5 _ 80 (0, 0) O5.out.hb]; rfl
      have r120 : ((kd.toNat : Int) == 120) = true := by rw [HKD.out]; rfl
      obtain ⟨-, -, -, -, b4, -, -, -, -⟩ := O5.out.re.cells
      go_wp2_with (first | (go_at_call 56; refine (HQ.out _ O5.out.re).mono ?_; rintro e w6 ⟨x, rfl, hqx⟩))
      go_ret
      exact ⟨x, rfl, hqx⟩

end Go.Proofs.YtkmcbpkciakmeaaGreatDoor.PA
