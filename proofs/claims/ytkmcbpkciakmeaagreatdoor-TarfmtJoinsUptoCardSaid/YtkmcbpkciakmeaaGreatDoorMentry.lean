/- An entry is kept. -/
import Derived.Test.YtkmcbpkciakmeaaGreatDoorMstate
import Derived.Deep.QuietTactic
import Derived.BigQuiet
import Derived.Deep.RegionWith
import Derived.Deep.RegionLaw
import Derived.Deep.CutBlock

/- (*tarfmt.reader).entry: an entry is kept, of a header whose kind is '0', '5' or '2'. -/
set_option linter.unusedVariables false
set_option linter.unusedSimpArgs false
namespace Go.Proofs.YtkmcbpkciakmeaaGreatDoor.PA
open Go.RowKit Go.Proofs.YtkmcbpkciakmeaaGreatDoorW.PrintWords Go.Proofs.YtkmcbpkciakmeaaGreatDoorW.PrintLast Go.Proofs.YtkmcbpkciakmeaaGreatDoorW.PrintMore

theorem under22e : Tryz.prog.underlying 22 = some (.slice 44) := by kernel_rfl
theorem info44e : (Tryz.prog.info? 44).map (fun i => (i.zero, i.size, i.bytes)) = some (some (.agg #[.int .i64 0, .string ⟨#[]⟩, .string ⟨#[]⟩, .int .i64 0, .int .i64 0, .string ⟨#[]⟩]), 6, 72) := by kernel_rfl
theorem step_append44 {ops : Array Oper} {o : Oper} {a : Act} {W : World} {K : Act → World → Prop} {Q : Exit → Act → World → Prop} (hgd : o.guard = none) (s x : Operand)
    (ho : o.op = .call { callee := .builtin .append, args := #[s, x], argTypes := #[22, 22] }) (base : Nat) (w0 : World) (v : Value) (xs : List S44) (y : S44) (ok : Nat → Prop)
    (hs : a.eval s = v) (hx : a.eval x = .slice (some ⟨W.heap.size, 0, none⟩) 1 1) (hf : base ≤ W.heap.size ∧ ∀ k, W.heap.size ≤ k → ok k) (HO : Kd.R k44 44 W base ok v xs) (HB : Below base w0 W) (hl : xs.length ≤ 1000)
    (h : ∀ v1 w1, Kd.R k44 44 w1 base ok v1 (xs ++ [y]) → Below base w0 w1 → W.grownBy w1 v.ownBlock → (v1.ownBlock = v.ownBlock ∨ ∃ b, v1.ownBlock = some b ∧ W.heap.size ≤ b) → K (a.put o.dst v1) w1) :
    if Region.wanted o (yielded ops a.tmps) = true then Oper.wp Tryz.prog o a (W.alloc (.cells #[.int .i64 y.f0, .string y.f1, .string y.f2, .int .i64 y.f3, .int .i64 y.f4, .string y.f5] 44)) K Q else K (a.put o.dst undef) (W.alloc (.cells #[.int .i64 y.f0, .string y.f1, .string y.f2, .int .i64 y.f3, .int .i64 y.f4, .string y.f5] 44)) :=
  Kd.R_append_step k44 (w0 := w0) base (by simp [Region.wanted, hgd]) s x 22 44 _ 72 ho under22e info44e rfl (by decide) (by omega) v xs y [.int .i64 y.f0, .string y.f1, .string y.f2, .int .i64 y.f3, .int .i64 y.f4, .string y.f5] ok (fun _ => False) hs hx (k44_mkM _ _ _ y) (fun _ hk => hk.elim) hf.2 HO HB hf.1 (by omega) h
theorem RE.fresh {w0 : World} {p m1 m2 : Nat} {vb vt : Value} {most ents : Int} {nx : List KV} {xs : List S44} {W : World} (r : RE w0 p m1 m2 vb vt most ents nx xs W) : w0.heap.size ≤ W.heap.size ∧ ∀ k, W.heap.size ≤ k → k ≠ p ∧ k ≠ m1 ∧ k ≠ m2 := by
  have h1 := blk_lt r.at_.blk
  have h2 := r.at_.next.lt
  have h3 := r.at_.always.lt
  exact ⟨r.at_.below.size, fun k hk => ⟨by omega, by omega, by omega⟩⟩

theorem RE.grown_at {w0 : World} {p m1 m2 : Nat} {vb vt : Value} {most ents : Int} {nx : List KV} {xs : List S44} {W w1 : World} (r : RE w0 p m1 m2 vb vt most ents nx xs W) (hg : W.grownBy w1 vt.ownBlock) : w1.cell? ⟨p, 1, none⟩ = some vt ∧ w1.frozen? ⟨p, 1, none⟩ = false := by
  have h : w1.heap[p]? = some (.cells #[vb, vt, .int .i64 most, .int .i64 ents, .map (some m1), .map (some m2), .pointer none, .pointer none] 54 (0, 0)) := (hg.block p (blk_lt r.at_.blk) (fun e => (r.rows.1 p e.symm).1 rfl)).trans r.at_.blk
  exact ⟨by rw [cell_of_row w1 p 1 _ 54 (0, 0) h]; rfl, blk_frozen h _⟩
set_option maxHeartbeats 4000000 in
set_option maxRecDepth 100000 in
theorem entry_ok {w0 : World} {p m1 m2 : Nat} {vb vt : Value} {most ents : Int} {nx : List KV} {xs : List S44} {w : World} (r : RE w0 p m1 m2 vb vt most ents nx xs w) (hT : Tabs w) (h : Hd) (D : ByteArray) (t : Int) (P : Bytes)
    (hm : h.mode < 4096) (hz : (pickS nx kPath h.name).size ≤ 1073741824) (hp : cleanS (pickS nx kPath h.name).data.toList = (P, 0))
    (h94 : ∀ W, Below w.heap.size w W → Calls Tryz.prog 94 #[.pointer (some ⟨p, 0, none⟩), .int .i64 h.time] W fun e w' => e = .returned (.tuple #[.int .i64 t, .int .i64 0]) ∧ Below W.heap.size W w')
    (hx : xs.length ≤ 1000) (h1 : (xs.length : Int) < ents) (h2 : (D.size : Int) ≤ most) (h3 : most ≤ 4611686018427387904) :
    Calls Tryz.prog 58 #[.pointer (some ⟨p, 0, none⟩), hdV h, .string D] w fun e w' => e = .returned (.int .i64 0) ∧ ∃ vt', RE w0 p m1 m2 vb vt' (most - D.size) ents [] (xs ++ [⟨kindN h.kind, str P, tgtS nx h, h.mode, t, D⟩]) w' := by
  have HR := Aside0.mk r
  have HT := Aside0.mk hT
  have H94 := Aside0.mk h94
  obtain ⟨P1, hP1⟩ : ∃ P1, P1 = pickS nx kPath h.name := ⟨_, rfl⟩
  obtain ⟨P2, hP2⟩ : ∃ P2, P2 = pickS nx kLink h.link := ⟨_, rfl⟩
  have H92p : ∀ W, Below w.heap.size w W → Calls Tryz.prog 92 #[.pointer (some ⟨p, 0, none⟩), .string ⟨#[112, 97, 116, 104]⟩, .pointer none, .string h.name] W fun e w' => e = .returned (.string P1) ∧ w' = W := fun W hW => by rw [hP1]; exact pick_calls (r.at_.then_ hW) kPath h.name
  have H92l : ∀ W, Below w.heap.size w W → Calls Tryz.prog 92 #[.pointer (some ⟨p, 0, none⟩), .string ⟨#[108, 105, 110, 107, 112, 97, 116, 104]⟩, .pointer none, .string h.link] W fun e w' => e = .returned (.string P2) ∧ w' = W := fun W hW => by rw [hP2]; exact pick_calls (r.at_.then_ hW) kLink h.link
  have H93 : ∀ W, Tabs W → Calls Tryz.prog 93 #[.string P1] W fun e w' => e = .returned (.tuple #[.string (str P), .int .i64 0]) ∧ Below W.heap.size W w' := fun W hW => by
    rw [← hP1] at hp hz
    have := clean_calls P1 W hW hz
    rwa [hp] at this
  have h92p := Aside0.mk H92p
  have h92l := Aside0.mk H92l
  have h93 := Aside0.mk H93
  have hp6 : ∀ W, Below w.heap.size w W → W.cell? ⟨p, 6, none⟩ = some (.pointer none) ∧ W.cell? ⟨p, 7, none⟩ = some (.pointer none) := fun W hW => ⟨(r.at_.then_ hW).cell 6, (r.at_.then_ hW).cell 7⟩
  have HP6 := Aside0.mk hp6
  clear r hT h94 H92p H92l H93 hp hz hp6 hP1
  have hmod : Int.tmod (h.mode : Int) 4096 = (h.mode : Int) := Int.tmod_eq_of_lt (by omega) (by omega)
  obtain ⟨hn, hl, mo, sz, ti, kd⟩ := h
  simp only [hdV] at *
  obtain ⟨TG, hTG⟩ : ∃ TG, TG = tgtS nx ⟨hn, hl, mo, sz, ti, kd⟩ := ⟨_, rfl⟩
  rw [← hTG]
  have HTG := Aside0.mk hTG
  have HP2 := Aside0.mk hP2
  clear hTG hP2
  go_enter Tryz.func58, Tryz.ntmps58
  go_upto_block 0 with fail
  go_cut [] (fun wx => Aside0 (EnAt w ⟨hn, hl, mo, sz, ti, kd⟩ (kindN kd) TG D wx))
  case first =>
    by_cases k53 : kd = 53
    · have t53 : ((kd.toNat : Int) == 53) = true := by rw [k53]; rfl
      have HK : Aside0 (kindN kd = 2) := ⟨by unfold kindN; rw [if_pos k53]⟩
      have HG : Aside0 (TG = ⟨#[]⟩) := ⟨by rw [HTG.out]; unfold tgtS; rw [if_neg (by show ¬ kd = 50; rw [k53]; decide)]⟩
      clear k53
      go_wp2_with fail
      go_meet
      rw [HK.out, HG.out]
      exact ⟨EnAt.start w ⟨hn, hl, mo, sz, ti, kd⟩ 2 D⟩
    · have t53 : ((kd.toNat : Int) == 53) = false := u8_eqF k53
      by_cases k50 : kd = 50
      · have t50 : ((kd.toNat : Int) == 50) = true := by rw [k50]; rfl
        have HK : Aside0 (kindN kd = 3) := ⟨by unfold kindN; rw [if_neg k53, if_pos k50]⟩
        have HG : Aside0 (TG = P2) := ⟨by rw [HTG.out, HP2.out]; unfold tgtS; rw [if_pos k50]⟩
        obtain ⟨W0, hW0⟩ : ∃ W0, W0 = (w.alloc (Obj.cells #[.string hn, .string hl, .int .i64 mo, .int .i64 sz, .int .i64 ti, .int .u8 kd.toNat] 80)).alloc (Obj.cells #[.int .i64 1, .string ⟨#[]⟩, .string ⟨#[]⟩, .int .i64 mo, .int .i64 0, .string D] 44) := ⟨_, rfl⟩
        have E0 : EnAt w ⟨hn, hl, mo, sz, ti, kd⟩ 1 ⟨#[]⟩ D W0 := by rw [hW0]; exact EnAt.start w ⟨hn, hl, mo, sz, ti, kd⟩ 1 D
        have c7 : W0.cell? ⟨p, 7, none⟩ = some (.pointer none) := (HP6.out W0 E0.below).2
        have ch1 : W0.cell? ⟨w.heap.size, 1, none⟩ = some (.string hl) := by rw [cell_of_row W0 _ 1 _ 80 (0, 0) E0.hb]; rfl
        have cx0 : W0.cell? ⟨w.heap.size + 1, 0, none⟩ = some (.int .i64 1) := by rw [cell_of_row W0 _ 0 _ 44 (0, 0) E0.xb]; rfl
        have cx2 : W0.cell? ⟨w.heap.size + 1, 2, none⟩ = some (.string ⟨#[]⟩) := by rw [cell_of_row W0 _ 2 _ 44 (0, 0) E0.xb]; rfl
        have cf : ∀ j, W0.frozen? ⟨w.heap.size + 1, j, none⟩ = false := fun j => blk_frozen E0.xb _
        have cf0 := cf 0
        have cf2 := cf 2
        have HE0 := Aside0.mk E0
        have HW0 := Aside0.mk hW0
        clear k53 k50 hW0 E0 cf
        go_wp2_with fail
        rw [← HW0.out]
        go_region_with (first | (go_at_call 92; refine (h92l.out _ (below_drew HE0.out.below)).mono ?_; rintro e w1 ⟨rfl, rfl⟩))
        all_goals
          try go_wp2_with fail
          go_meet
          rw [HK.out, HG.out]
          first
            | exact ⟨((HE0.out.setK 3).setT P2).drew⟩
            | exact ⟨((HE0.out.drew.setK 3).setT P2)⟩
            | exact ⟨((HE0.out.setT P2).setK 3).drew⟩
      · have t50 : ((kd.toNat : Int) == 50) = false := u8_eqF k50
        have HK : Aside0 (kindN kd = 1) := ⟨by unfold kindN; rw [if_neg k53, if_neg k50]⟩
        have HG : Aside0 (TG = ⟨#[]⟩) := ⟨by rw [HTG.out]; unfold tgtS; rw [if_neg k50]⟩
        clear k53 k50
        go_wp2_with fail
        go_meet
        rw [HK.out, HG.out]
        exact ⟨EnAt.start w ⟨hn, hl, mo, sz, ti, kd⟩ 1 D⟩
  case rest =>
    have E0 := hcut
    have HE : ∀ W, Aside0 (EnAt w ⟨hn, hl, mo, sz, ti, kd⟩ (kindN kd) TG D W) → W.cell? ⟨p, 6, none⟩ = some (.pointer none) ∧ W.cell? ⟨w.heap.size, 0, none⟩ = some (.string hn) ∧ W.cell? ⟨w.heap.size, 4, none⟩ = some (.int .i64 ti) := fun W hW => ⟨(HP6.out W hW.out.below).1, by rw [cell_of_row W _ 0 _ 80 (0, 0) hW.out.hb]; rfl, by rw [cell_of_row W _ 4 _ 80 (0, 0) hW.out.hb]; rfl⟩
    obtain ⟨c6, d0, -⟩ := HE _ E0
    have HEE := Aside0.mk HE
    clear HE
    have KD : Aside0 (Tabs wc.drew) := ⟨(HT.out.below E0.out.below).drew⟩
    go_upto_region 7 with fail
    go_cut [8, 9] (fun s8 s9 wx => s8 = .string (str P) ∧ s9 = .int .i64 0 ∧ Aside0 (EnAt w ⟨hn, hl, mo, sz, ti, kd⟩ (kindN kd) TG D wx))
    case first =>
      go_region_with (first | (go_at_call 92; refine (h92p.out _ (below_drew E0.out.below)).mono ?_; rintro e w1 ⟨rfl, rfl⟩) | (go_at_call 93; refine (h93.out _ KD.out).mono ?_; rintro e w2 ⟨rfl, hb2⟩; have E2 := Aside0.mk (E0.out.drew.then_ hb2)))
      all_goals
        try go_wp2_with fail
        go_meet
        exact ⟨rfl, rfl, E2⟩
    case rest =>
      obtain ⟨rfl, rfl, E2⟩ := hcut
      clear E0 KD c6 d0
      obtain ⟨-, -, d4⟩ := HEE.out _ E2
      have E2b := E2.out.below
      go_wp2_with (first | (go_at_call 94; refine (H94.out _ E2.out.below).mono ?_; rintro e w3 ⟨rfl, hb3⟩; have E3 := Aside0.mk (E2.out.then_ hb3); have cx1 : w3.cell? ⟨w.heap.size + 1, 1, none⟩ = some (.string ⟨#[]⟩) := (by rw [cell_of_row w3 _ 1 _ 44 (0, 0) E3.out.xb]; rfl); have cx4 : w3.cell? ⟨w.heap.size + 1, 4, none⟩ = some (.int .i64 0) := (by rw [cell_of_row w3 _ 4 _ 44 (0, 0) E3.out.xb]; rfl); have cf1 : w3.frozen? ⟨w.heap.size + 1, 1, none⟩ = false := blk_frozen E3.out.xb _; have cf4 : w3.frozen? ⟨w.heap.size + 1, 4, none⟩ = false := blk_frozen E3.out.xb _; obtain ⟨W4, hW4⟩ : ∃ W4, W4 = (w3.setCell ⟨w.heap.size + 1, 1, none⟩ (.string (str P))).setCell ⟨w.heap.size + 1, 4, none⟩ (.int .i64 t) := ⟨_, rfl⟩; have E4 := Aside0.mk (E3.out.fin (str P) t); rw [← hW4] at E4; have HW4 := Aside0.mk hW4; clear hW4))
      rw [← HW4.out]
      have R4 := Aside0.mk (HR.out.then_ E4.out.below)
      obtain ⟨-, b1, b2, b3, b4, -, b6, b7, bf⟩ := R4.out.cells
      have bf2 := bf 2
      obtain ⟨A, c, hvt⟩ := R4.out.len
      subst hvt
      have g1 : ¬ (ents ≤ (xs.length : Int)) := by omega
      have g2 : ¬ (most < (D.size : Int)) := by omega
      have hwr : wrap64 (most - (D.size : Int)) = most - (D.size : Int) := wrap64_in _ (by omega)
      go_quiet (fail)
      have E5 := Aside0.mk (E4.out.drewN nq)
      have R5 := Aside0.mk (R4.out.drewN nq)
      generalize W4.drewN nq = W5 at *
      clear b1 b2 b3 b4 b6 b7 bf bf2 cx1 cx4 cf1 cf4 d4
      obtain ⟨-, b1, b2, b3, b4, -, b6, b7, bf⟩ := R5.out.cells
      have bf2 := bf 2
      obtain ⟨W6, hW6⟩ : ∃ W6, W6 = W5.setCell ⟨p, 2, none⟩ (.int .i64 (most - (D.size : Int))) := ⟨_, rfl⟩
      have R6 := Aside0.mk (R5.out.setMost (most - (D.size : Int)))
      rw [← hW6] at R6
      have x6 : W6.heap[w.heap.size + 1]? = some (.cells #[.int .i64 (kindN kd), .string (str P), .string TG, .int .i64 mo, .int .i64 t, .string D] 44 (0, 0)) := by
        have hpw : w.heap.size + 1 ≠ p := by
          have := HR.out.at_.blk; have := blk_lt this; omega
        rw [hW6]
        exact (Below.heap_setCell _ _ _ _ hpw).trans E5.out.xb
      have x60 : W6.cell? ⟨w.heap.size + 1, 0, none⟩ = some (.int .i64 (kindN kd)) := by rw [cell_of_row W6 _ 0 _ 44 (0, 0) x6]; rfl
      have x61 : W6.cell? ⟨w.heap.size + 1, 1, none⟩ = some (.string (str P)) := by rw [cell_of_row W6 _ 1 _ 44 (0, 0) x6]; rfl
      have x62 : W6.cell? ⟨w.heap.size + 1, 2, none⟩ = some (.string TG) := by rw [cell_of_row W6 _ 2 _ 44 (0, 0) x6]; rfl
      have x63 : W6.cell? ⟨w.heap.size + 1, 3, none⟩ = some (.int .i64 mo) := by rw [cell_of_row W6 _ 3 _ 44 (0, 0) x6]; rfl
      have x64 : W6.cell? ⟨w.heap.size + 1, 4, none⟩ = some (.int .i64 t) := by rw [cell_of_row W6 _ 4 _ 44 (0, 0) x6]; rfl
      have x65 : W6.cell? ⟨w.heap.size + 1, 5, none⟩ = some (.string D) := by rw [cell_of_row W6 _ 5 _ 44 (0, 0) x6]; rfl
      have HW6 := Aside0.mk hW6
      clear hW6
      go_wp2_with fail
      rw [← HW6.out]
      obtain ⟨-, n1, n2, n3, n4, -, n6, n7, nf⟩ := R6.out.cells
      have nf1 := nf 1
      have n1a : ∀ O, (W6.alloc O).cell? ⟨p, 1, none⟩ = some (.slice A xs.length c) := fun O => (R6.out.then_ (below_alloc (Below.refl _ _) O)).cells.2.1
      have R7 := Aside0.mk (R6.out.then_ (below_drew (Below.refl _ _)))
      clear b1 b2 b3 b4 b6 b7 bf bf2 x6
      go_region_law (first | (refine step_append44 (W := W6.drew) rfl (.tmp 94) (.tmp 96) rfl w0.heap.size w0 (.slice A xs.length c) xs ⟨kindN kd, str P, TG, mo, t, D⟩ (fun k => k ≠ p ∧ k ≠ m1 ∧ k ≠ m2) rfl rfl (R7.out.fresh) (Aside0.out R7).rows (Aside0.out R7).at_.below hx ?_; intro v8 w8 hv8 hb8 hg8 hat8; have R8 := Aside0.mk (R7.out.grown hv8 hb8 hg8); obtain ⟨A8, c8, rfl⟩ := Kd.R_slice hv8; obtain ⟨q8, qf8⟩ := R7.out.grown_at hg8))
      all_goals
        have hl8 : ∀ y : S44, (xs ++ [y]).length = xs.length + 1 := fun y => by simp
        rw [hl8] at R8
        obtain ⟨W9, hW9⟩ : ∃ W9, W9 = w8.setCell ⟨p, 1, none⟩ (.slice A8 (xs.length + 1) c8) := ⟨_, rfl⟩
        rw [← hW9] at R8 ⊢
        obtain ⟨-, -, -, -, s4, -, -, -, -⟩ := R8.out.cells
        clear n1 n2 n3 n4 n6 n7 nf nf1 n1a q8 qf8 hv8 hg8 hat8 hW9 x60 x61 x62 x63 x64 x65
        go_wp2_with (first | ((with_reducible refine gate_builtin (b := .clear) (xs := #[.tmp 103]) rfl ?_); refine wpList_clear_S rfl (.tmp 103) rfl m1 nx rfl R8.out.at_.next ?_; intro w10 h1 h2 h3 h4; have R10 := Aside0.mk (R8.out.clear_ h1 h2 h3 h4); clear h1 h2 h3 h4; obtain ⟨-, -, -, -, -, -, z6, z7, zf⟩ := R10.out.cells; have zf6 := zf 6; have zf7 := zf 7))
        go_ret
        exact ⟨rfl, _, R10.out.set67⟩
end Go.Proofs.YtkmcbpkciakmeaaGreatDoor.PA

/- (*tarfmt.reader).entry: where the limits do not suffice, it is told. -/
set_option linter.unusedVariables false
set_option linter.unusedSimpArgs false
namespace Go.Proofs.YtkmcbpkciakmeaaGreatDoor.PA
open Go.RowKit Go.Proofs.YtkmcbpkciakmeaaGreatDoorW.PrintWords Go.Proofs.YtkmcbpkciakmeaaGreatDoorW.PrintLast Go.Proofs.YtkmcbpkciakmeaaGreatDoorW.PrintMore

set_option maxHeartbeats 4000000 in
set_option maxRecDepth 100000 in
theorem entry_over {w0 : World} {p m1 m2 : Nat} {vb vt : Value} {most ents : Int} {nx : List KV} {xs : List S44} {w : World} (r : RE w0 p m1 m2 vb vt most ents nx xs w) (hT : Tabs w) (h : Hd) (D : ByteArray) (t : Int) (P : Bytes)
    (hm : h.mode < 4096) (hz : (pickS nx kPath h.name).size ≤ 1073741824) (hp : cleanS (pickS nx kPath h.name).data.toList = (P, 0))
    (h94 : ∀ W, Below w.heap.size w W → Calls Tryz.prog 94 #[.pointer (some ⟨p, 0, none⟩), .int .i64 h.time] W fun e w' => e = .returned (.tuple #[.int .i64 t, .int .i64 0]) ∧ Below W.heap.size W w')
    (hov : ents ≤ (xs.length : Int) ∨ most < (D.size : Int)) :
    Calls Tryz.prog 58 #[.pointer (some ⟨p, 0, none⟩), hdV h, .string D] w fun e w' => e = .returned (.int .i64 162) ∧ Below w0.heap.size w0 w' := by
  have HR := Aside0.mk r
  have HOV := Aside0.mk hov
  clear hov
  have HT := Aside0.mk hT
  have H94 := Aside0.mk h94
  obtain ⟨P1, hP1⟩ : ∃ P1, P1 = pickS nx kPath h.name := ⟨_, rfl⟩
  obtain ⟨P2, hP2⟩ : ∃ P2, P2 = pickS nx kLink h.link := ⟨_, rfl⟩
  have H92p : ∀ W, Below w.heap.size w W → Calls Tryz.prog 92 #[.pointer (some ⟨p, 0, none⟩), .string ⟨#[112, 97, 116, 104]⟩, .pointer none, .string h.name] W fun e w' => e = .returned (.string P1) ∧ w' = W := fun W hW => by rw [hP1]; exact pick_calls (r.at_.then_ hW) kPath h.name
  have H92l : ∀ W, Below w.heap.size w W → Calls Tryz.prog 92 #[.pointer (some ⟨p, 0, none⟩), .string ⟨#[108, 105, 110, 107, 112, 97, 116, 104]⟩, .pointer none, .string h.link] W fun e w' => e = .returned (.string P2) ∧ w' = W := fun W hW => by rw [hP2]; exact pick_calls (r.at_.then_ hW) kLink h.link
  have H93 : ∀ W, Tabs W → Calls Tryz.prog 93 #[.string P1] W fun e w' => e = .returned (.tuple #[.string (str P), .int .i64 0]) ∧ Below W.heap.size W w' := fun W hW => by
    rw [← hP1] at hp hz
    have := clean_calls P1 W hW hz
    rwa [hp] at this
  have h92p := Aside0.mk H92p
  have h92l := Aside0.mk H92l
  have h93 := Aside0.mk H93
  have hp6 : ∀ W, Below w.heap.size w W → W.cell? ⟨p, 6, none⟩ = some (.pointer none) ∧ W.cell? ⟨p, 7, none⟩ = some (.pointer none) := fun W hW => ⟨(r.at_.then_ hW).cell 6, (r.at_.then_ hW).cell 7⟩
  have HP6 := Aside0.mk hp6
  clear r hT h94 H92p H92l H93 hp hz hp6 hP1
  have hmod : Int.tmod (h.mode : Int) 4096 = (h.mode : Int) := Int.tmod_eq_of_lt (by omega) (by omega)
  obtain ⟨hn, hl, mo, sz, ti, kd⟩ := h
  simp only [hdV] at *
  obtain ⟨TG, hTG⟩ : ∃ TG, TG = tgtS nx ⟨hn, hl, mo, sz, ti, kd⟩ := ⟨_, rfl⟩
  have HTG := Aside0.mk hTG
  have HP2 := Aside0.mk hP2
  clear hTG hP2
  go_enter Tryz.func58, Tryz.ntmps58
  go_upto_block 0 with fail
  go_cut [] (fun wx => Aside0 (EnAt w ⟨hn, hl, mo, sz, ti, kd⟩ (kindN kd) TG D wx))
  case first =>
    by_cases k53 : kd = 53
    · have t53 : ((kd.toNat : Int) == 53) = true := by rw [k53]; rfl
      have HK : Aside0 (kindN kd = 2) := ⟨by unfold kindN; rw [if_pos k53]⟩
      have HG : Aside0 (TG = ⟨#[]⟩) := ⟨by rw [HTG.out]; unfold tgtS; rw [if_neg (by show ¬ kd = 50; rw [k53]; decide)]⟩
      clear k53
      go_wp2_with fail
      go_meet
      rw [HK.out, HG.out]
      exact ⟨EnAt.start w ⟨hn, hl, mo, sz, ti, kd⟩ 2 D⟩
    · have t53 : ((kd.toNat : Int) == 53) = false := u8_eqF k53
      by_cases k50 : kd = 50
      · have t50 : ((kd.toNat : Int) == 50) = true := by rw [k50]; rfl
        have HK : Aside0 (kindN kd = 3) := ⟨by unfold kindN; rw [if_neg k53, if_pos k50]⟩
        have HG : Aside0 (TG = P2) := ⟨by rw [HTG.out, HP2.out]; unfold tgtS; rw [if_pos k50]⟩
        obtain ⟨W0, hW0⟩ : ∃ W0, W0 = (w.alloc (Obj.cells #[.string hn, .string hl, .int .i64 mo, .int .i64 sz, .int .i64 ti, .int .u8 kd.toNat] 80)).alloc (Obj.cells #[.int .i64 1, .string ⟨#[]⟩, .string ⟨#[]⟩, .int .i64 mo, .int .i64 0, .string D] 44) := ⟨_, rfl⟩
        have E0 : EnAt w ⟨hn, hl, mo, sz, ti, kd⟩ 1 ⟨#[]⟩ D W0 := by rw [hW0]; exact EnAt.start w ⟨hn, hl, mo, sz, ti, kd⟩ 1 D
        have c7 : W0.cell? ⟨p, 7, none⟩ = some (.pointer none) := (HP6.out W0 E0.below).2
        have ch1 : W0.cell? ⟨w.heap.size, 1, none⟩ = some (.string hl) := by rw [cell_of_row W0 _ 1 _ 80 (0, 0) E0.hb]; rfl
        have cx0 : W0.cell? ⟨w.heap.size + 1, 0, none⟩ = some (.int .i64 1) := by rw [cell_of_row W0 _ 0 _ 44 (0, 0) E0.xb]; rfl
        have cx2 : W0.cell? ⟨w.heap.size + 1, 2, none⟩ = some (.string ⟨#[]⟩) := by rw [cell_of_row W0 _ 2 _ 44 (0, 0) E0.xb]; rfl
        have cf : ∀ j, W0.frozen? ⟨w.heap.size + 1, j, none⟩ = false := fun j => blk_frozen E0.xb _
        have cf0 := cf 0
        have cf2 := cf 2
        have HE0 := Aside0.mk E0
        have HW0 := Aside0.mk hW0
        clear k53 k50 hW0 E0 cf
        go_wp2_with fail
        rw [← HW0.out]
        go_region_with (first | (go_at_call 92; refine (h92l.out _ (below_drew HE0.out.below)).mono ?_; rintro e w1 ⟨rfl, rfl⟩))
        all_goals
          try go_wp2_with fail
          go_meet
          rw [HK.out, HG.out]
          first
            | exact ⟨((HE0.out.setK 3).setT P2).drew⟩
            | exact ⟨((HE0.out.drew.setK 3).setT P2)⟩
            | exact ⟨((HE0.out.setT P2).setK 3).drew⟩
      · have t50 : ((kd.toNat : Int) == 50) = false := u8_eqF k50
        have HK : Aside0 (kindN kd = 1) := ⟨by unfold kindN; rw [if_neg k53, if_neg k50]⟩
        have HG : Aside0 (TG = ⟨#[]⟩) := ⟨by rw [HTG.out]; unfold tgtS; rw [if_neg k50]⟩
        clear k53 k50
        go_wp2_with fail
        go_meet
        rw [HK.out, HG.out]
        exact ⟨EnAt.start w ⟨hn, hl, mo, sz, ti, kd⟩ 1 D⟩
  case rest =>
    have E0 := hcut
    have HE : ∀ W, Aside0 (EnAt w ⟨hn, hl, mo, sz, ti, kd⟩ (kindN kd) TG D W) → W.cell? ⟨p, 6, none⟩ = some (.pointer none) ∧ W.cell? ⟨w.heap.size, 0, none⟩ = some (.string hn) ∧ W.cell? ⟨w.heap.size, 4, none⟩ = some (.int .i64 ti) := fun W hW => ⟨(HP6.out W hW.out.below).1, by rw [cell_of_row W _ 0 _ 80 (0, 0) hW.out.hb]; rfl, by rw [cell_of_row W _ 4 _ 80 (0, 0) hW.out.hb]; rfl⟩
    obtain ⟨c6, d0, -⟩ := HE _ E0
    have HEE := Aside0.mk HE
    clear HE
    have KD : Aside0 (Tabs wc.drew) := ⟨(HT.out.below E0.out.below).drew⟩
    go_upto_region 7 with fail
    go_cut [8, 9] (fun s8 s9 wx => s8 = .string (str P) ∧ s9 = .int .i64 0 ∧ Aside0 (EnAt w ⟨hn, hl, mo, sz, ti, kd⟩ (kindN kd) TG D wx))
    case first =>
      go_region_with (first | (go_at_call 92; refine (h92p.out _ (below_drew E0.out.below)).mono ?_; rintro e w1 ⟨rfl, rfl⟩) | (go_at_call 93; refine (h93.out _ KD.out).mono ?_; rintro e w2 ⟨rfl, hb2⟩; have E2 := Aside0.mk (E0.out.drew.then_ hb2)))
      all_goals
        try go_wp2_with fail
        go_meet
        exact ⟨rfl, rfl, E2⟩
    case rest =>
      obtain ⟨rfl, rfl, E2⟩ := hcut
      clear E0 KD c6 d0
      obtain ⟨-, -, d4⟩ := HEE.out _ E2
      have E2b := E2.out.below
      go_wp2_with (first | (go_at_call 94; refine (H94.out _ E2.out.below).mono ?_; rintro e w3 ⟨rfl, hb3⟩; have E3 := Aside0.mk (E2.out.then_ hb3); have cx1 : w3.cell? ⟨w.heap.size + 1, 1, none⟩ = some (.string ⟨#[]⟩) := (by rw [cell_of_row w3 _ 1 _ 44 (0, 0) E3.out.xb]; rfl); have cx4 : w3.cell? ⟨w.heap.size + 1, 4, none⟩ = some (.int .i64 0) := (by rw [cell_of_row w3 _ 4 _ 44 (0, 0) E3.out.xb]; rfl); have cf1 : w3.frozen? ⟨w.heap.size + 1, 1, none⟩ = false := blk_frozen E3.out.xb _; have cf4 : w3.frozen? ⟨w.heap.size + 1, 4, none⟩ = false := blk_frozen E3.out.xb _; obtain ⟨W4, hW4⟩ : ∃ W4, W4 = (w3.setCell ⟨w.heap.size + 1, 1, none⟩ (.string (str P))).setCell ⟨w.heap.size + 1, 4, none⟩ (.int .i64 t) := ⟨_, rfl⟩; have E4 := Aside0.mk (E3.out.fin (str P) t); rw [← hW4] at E4; have HW4 := Aside0.mk hW4; clear hW4))
      rw [← HW4.out]
      have R4 := Aside0.mk (HR.out.then_ E4.out.below)
      obtain ⟨-, b1, b2, b3, b4, -, b6, b7, bf⟩ := R4.out.cells
      have bf2 := bf 2
      obtain ⟨A, c, hvt⟩ := R4.out.len
      subst hvt
      rcases HOV.out with g1 | g2
      · have g1d : decide (ents ≤ (xs.length : Int)) = true := decide_eq_true g1
        go_quiet (fail)
        have R5 := Aside0.mk (R4.out.drewN nq)
        generalize W4.drewN nq = W5 at *
        go_wp2_with fail
        go_ret
        exact ⟨rfl, R5.out.at_.below⟩
      · by_cases g1 : ents ≤ (xs.length : Int)
        · have g1d : decide (ents ≤ (xs.length : Int)) = true := decide_eq_true g1
          go_quiet (fail)
          have R5 := Aside0.mk (R4.out.drewN nq)
          generalize W4.drewN nq = W5 at *
          go_wp2_with fail
          go_ret
          exact ⟨rfl, R5.out.at_.below⟩
        · have g1d : decide (ents ≤ (xs.length : Int)) = false := decide_eq_false g1
          have g2d : decide (most < (D.size : Int)) = true := decide_eq_true g2
          go_quiet (fail)
          have R5 := Aside0.mk (R4.out.drewN nq)
          generalize W4.drewN nq = W5 at *
          go_wp2_with fail
          go_ret
          exact ⟨rfl, R5.out.at_.below⟩
end Go.Proofs.YtkmcbpkciakmeaaGreatDoor.PA
