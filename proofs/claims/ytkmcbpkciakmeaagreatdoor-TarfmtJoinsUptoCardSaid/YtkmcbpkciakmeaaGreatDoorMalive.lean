/- alive answers true. -/
import Derived.Test.YtkmcbpkciakmeaaGreatDoorMread
import Derived.Test.YtkmcbpkciakmeaaGreatDoorMsort

/- alive answers true; nothing turns but new blocks and the orders drawn. -/
set_option linter.unusedVariables false
set_option linter.unusedSimpArgs false
namespace Go.Proofs.YtkmcbpkciakmeaaGreatDoor.PA
open Go.RowKit Go.Proofs.YtkmcbpkciakmeaaGreatDoorW.PrintWords Go.Proofs.YtkmcbpkciakmeaaGreatDoorW.PrintLast Go.Proofs.YtkmcbpkciakmeaaGreatDoorW.PrintMore

theorem read_alive (v : Value) (w : World) (hT : Tabs w) (hv : RB w v (writeS [xA])) :
    Calls Tryz.prog 14 #[v, .int .i64 1, .int .i64 1] w fun e w' => ∃ A c, e = .returned (.tuple #[.slice A 1 c, .int .i64 0]) ∧ 1 ≤ c ∧ Kd.C k44 w' A 1 [xA] ∧ Below w.heap.size w w' := by
  have hv' : RB w v (bodyS [xA] ++ (zeros 1024 ++ [])) := by rw [List.append_nil]; exact hv
  have hf : ∀ x ∈ [xA], Fine x := fun x hx => by rw [List.mem_singleton.1 hx]; exact fineA
  have hio : InOrder [xA] := fun i j h1 h2 => by simp at h2; omega
  refine (read_calls v [xA] [xA] [] 1 1 w hT hv' hf (by simp) (fun k hk => by
    obtain rfl : k = 0 := by simp at hk; omega
    decide) (by decide) (fun W A c hW hC hc => sort_small A c [xA] W hC hc (by simp) (by simp) hio) (fun x hx => by rw [List.mem_singleton.1 hx]; decide)).mono ?_
  rintro e w' ⟨h, hb⟩
  rw [if_pos checkA] at h
  obtain ⟨A, c, rfl, hc, hC⟩ := h
  exact ⟨A, c, rfl, hc, hC, hb⟩
theorem row39_C {w : World} {g : Nat} {a b : ByteArray} (h : w.heap[g]? = some (.cells #[.string a, .string b] 39 (0, 0))) : Kd.C k39 w (some ⟨g, 0, none⟩) 1 [(a, b)] := by
  refine ⟨rfl, by omega, fun _ => ⟨⟨g, 0, none⟩, rfl, fun j p hp => ?_⟩⟩
  have hj : j = 0 := by
    rcases Nat.eq_zero_or_pos j with h0 | h0
    · exact h0
    · rw [List.getElem?_eq_none (by simp; omega)] at hp; cases hp
  subst hj
  obtain rfl : (a, b) = p := by simpa using hp
  refine ⟨[.string a, .string b], rfl, k39_mk w (a, b), fun i u hu => ?_⟩
  have ha : (⟨g, 0, none⟩ : Addr).add (0 * k39.sz + i) = ⟨g, i, none⟩ := by
    unfold Addr.add; simp; omega
  rw [ha, cell_of_row w g _ _ 39 (0, 0) h]
  rw [← hu]
  simp

set_option maxHeartbeats 4000000 in
set_option maxRecDepth 100000 in
theorem alive_calls (w : World) (hT : Tabs w) : Calls Tryz.prog 10 #[] w fun e w' => e = .returned (.bool true) ∧ Below w.heap.size w w' := by
  obtain ⟨W1, hW1⟩ : ∃ W1, W1 = w.alloc (Obj.cells #[.int .i64 1, .string ⟨#[97]⟩, .string ⟨#[]⟩, .int .i64 5, .int .i64 7, .string ⟨#[120]⟩] 44) := ⟨_, rfl⟩
  have hb1 : Below w.heap.size w W1 := by rw [hW1]; exact below_alloc (Below.refl _ _) _
  have hrow : Kd.C k44 W1 (some ⟨w.heap.size, 0, none⟩) 1 [xA] := flat_C (by simp) (by rw [hW1]; exact heap_alloc_new w _)
  have HR := Aside0.mk hrow
  have hT1 := hT.below hb1
  have H11 := Aside0.mk (write_calls_yes (some ⟨w.heap.size, 0, none⟩) 1 [xA] W1 hT1 hrow (by simp) (fun x hx => by rw [List.mem_singleton.1 hx]; decide) canA)
  have HW1 := Aside0.mk hW1
  have HB1 := Aside0.mk hb1
  have HT := Aside0.mk hT
  have HS1 : Aside0 (W1.heap.size = w.heap.size + 1) := ⟨by rw [hW1]; simp⟩
  clear hrow hT1 hb1 hW1 hT
  have hq : ((str [57, 32, 112, 97, 116, 104, 61, 97, 10]).toList == [57, 32, 112, 97, 116, 104, 61, 97, 10]) = true := by rw [Lib.toList_data]; rfl
  go_enter Tryz.func10, Tryz.ntmps10
  go_wp2_with (first | (go_at_call 11; rw [← HW1.out]; refine (H11.out).mono ?_; rintro e w2 ⟨v2, rfl, hv2, hb2⟩; obtain ⟨A2, c2, rfl, -⟩ := id hv2.reads; rw [lenA]; have HV2 := Aside0.mk hv2.reads; clear hv2; have B2 := Aside0.mk (HB1.out.trans (hb2.mono HB1.out.size))) | (go_at_call 14; refine (read_alive _ _ (HT.out.below B2.out) (by have := HV2.out; rw [lenA] at this; exact this)).mono ?_; rintro e w3 ⟨A3, c3, rfl, hc3, hC3, hb3⟩; have HC3 := Aside0.mk hC3; have B3 := Aside0.mk (below_then B2.out B2.out.size hb3); clear hC3; have R3 := Aside0.mk (Kd.C_below HR.out (below_then hb2 hb2.size hb3))) | (go_at_call 15; refine (wainloadref16_Same.calls 2 (some ⟨w.heap.size, 0, none⟩) 1 [xA] A3 c3 [xA] true w3 R3.out (Nat.le_refl _) HC3.out hc3 sameA).mono ?_; rintro e w4 ⟨rfl, nd, rfl⟩; have B4 := Aside0.mk (pw_below_drewN B3.out nd); generalize w3.drewN nd = w4 at *) | (go_at_call 16; refine (records_calls _ 1 [(⟨#[112, 97, 116, 104]⟩, ⟨#[97]⟩)] _ ((HT.out.below B4.out).alloc _) (row39_C (heap_alloc_new w4 _)) (Nat.le_refl _) (by simp) (fun x hx => by rw [List.mem_singleton.1 hx]; decide)).mono ?_; rintro e w5 ⟨rfl, hb5⟩; rw [recA]))
  go_ret
  refine ⟨rfl, below_then (below_alloc B4.out _) (below_alloc B4.out _).size hb5⟩
end Go.Proofs.YtkmcbpkciakmeaaGreatDoor.PA
