/- Rows of entries that need not be in order are sorted. -/
import Derived.Test.YtkmcbpkciakmeaaGreatDoorMsort
import Derived.Test.YtkmcbpkciakmeaaGreatDoorMsortp
import Derived.Test.YtkmcbpkciakmeaaGreatDoorShelfb
import Derived.Test.YtkmcbpkciakmeaaGreatDoorMprintedb
import Derived.Test.YtkmcbpkciakmeaaGreatDoorMrefcheck
import Derived.Shelf.SlSortCmp.KitK

/- slices.swapRangeCmpFunc of entries: two blocks change places. (The program is a variable: what the walks ask of it stands in 'SG'; so are an element's cells.) -/
set_option linter.unusedVariables false
set_option linter.unusedSimpArgs false
namespace Go.Proofs.YtkmcbpkciakmeaaGreatDoor.PA
open Go.Shelf Go.Sort Go.RowKit Go.Proofs.YtkmcbpkciakmeaaGreatDoorW.PrintWords Go.Proofs.YtkmcbpkciakmeaaGreatDoorW.PrintLast Go.Proofs.YtkmcbpkciakmeaaGreatDoorW.PrintMore

instance inhS44 : Inhabited S44 := ⟨z44⟩

/-- What the sort's walks ask of a program. -/
structure SG (P : Program) : Prop where
  mixed : P.follows .mixedOrders = true
  f175 : P.funcs[175]? = some Tryz.f175
  f158 : P.funcs[158]? = some Tryz.f158
  f134 : P.funcs[134]? = some Tryz.f134
  f133 : P.funcs[133]? = some Tryz.f133
  f95 : P.funcs[95]? = some Tryz.f95
  t0 : P.underlying 0 = some (TypeDesc.tuple #[])
  a0 : ∀ w, (isAgg 0).run P w = .ok false w
  z0 : ∀ w, (Go.sizeOf 0).run P w = .ok 1 w
  v0 : ∀ w, (zeroValue 0).run P w = .ok (Value.tuple #[]) w
  t3 : P.underlying 3 = some (TypeDesc.int IntKind.i64)
  a3 : ∀ w, (isAgg 3).run P w = .ok false w
  z3 : ∀ w, (Go.sizeOf 3).run P w = .ok 1 w
  v3 : ∀ w, (zeroValue 3).run P w = .ok (Value.int IntKind.i64 0) w
  t4 : P.underlying 4 = some (TypeDesc.bool)
  a4 : ∀ w, (isAgg 4).run P w = .ok false w
  z4 : ∀ w, (Go.sizeOf 4).run P w = .ok 1 w
  v4 : ∀ w, (zeroValue 4).run P w = .ok (Value.bool false) w
  t22 : P.underlying 22 = some (TypeDesc.slice 44)
  a22 : ∀ w, (isAgg 22).run P w = .ok false w
  z22 : ∀ w, (Go.sizeOf 22).run P w = .ok 1 w
  v22 : ∀ w, (zeroValue 22).run P w = .ok (Value.slice none 0 0) w
  t97 : P.underlying 97 = some (TypeDesc.func #[44, 44] #[3] false)
  a97 : ∀ w, (isAgg 97).run P w = .ok false w
  z97 : ∀ w, (Go.sizeOf 97).run P w = .ok 1 w
  v97 : ∀ w, (zeroValue 97).run P w = .ok (Value.nilFunc) w
  t143 : P.underlying 143 = some (TypeDesc.int IntKind.u64)
  a143 : ∀ w, (isAgg 143).run P w = .ok false w
  z143 : ∀ w, (Go.sizeOf 143).run P w = .ok 1 w
  v143 : ∀ w, (zeroValue 143).run P w = .ok (Value.int IntKind.u64 0) w
theorem sg_tryz : SG Tryz.prog :=
  ⟨by kernel_rfl, Tryz.func175, Tryz.func158, Tryz.func134, Tryz.func133, Tryz.func95, Tryz.underlying0, Tryz.isAgg0, Tryz.sizeOf0, Tryz.zeroValue0, Tryz.underlying3, Tryz.isAgg3, Tryz.sizeOf3, Tryz.zeroValue3, Tryz.underlying4, Tryz.isAgg4, Tryz.sizeOf4, Tryz.zeroValue4,
   Tryz.underlying22, Tryz.isAgg22, Tryz.sizeOf22, Tryz.zeroValue22, Tryz.underlying97, Tryz.isAgg97, Tryz.sizeOf97, Tryz.zeroValue97, Tryz.underlying143, Tryz.isAgg143, Tryz.sizeOf143, Tryz.zeroValue143⟩

variable {P : Program} {α : Type} [Inhabited α]

set_option maxHeartbeats 4000000 in
set_option maxRecDepth 100000 in
theorem swapRange_g (L : SG P) (k : Nat) (aE : ∀ w, (isAgg 44).run P w = .ok true w) (zE : ∀ w, (Go.sizeOf 44).run P w = .ok k w) (enc : α → List Value) (f : Value) (g o c0 : Nat) (d0 d : Array α) (w0 W : World) (R : RowK enc k w0 g o d0) (hs : d.size = d0.size) (S : SWK enc k w0 g o d W) (a b n : Nat) (h1 : a + n ≤ b) (h2 : b + n ≤ d0.size) (hsz : d0.size ≤ 1000) :
    Calls P 175 #[.slice (some ⟨g, o, none⟩) d0.size c0, .int .i64 a, .int .i64 b, .int .i64 n, f] W fun e w' => e = .returned (.tuple #[]) ∧ ∃ d', SWK enc k w0 g o d' w' ∧ IsSw d d' a b n := by
  have mixed := L.mixed; have t0 := L.t0; have a0 := L.a0; have z0 := L.z0; have v0 := L.v0; have t3 := L.t3; have a3 := L.a3; have z3 := L.z3; have v3 := L.v3; have t4 := L.t4; have a4 := L.a4; have z4 := L.z4; have v4 := L.v4; have t22 := L.t22; have a22 := L.a22; have z22 := L.z22; have v22 := L.v22; have t97 := L.t97; have a97 := L.a97; have z97 := L.z97; have v97 := L.v97; have t143 := L.t143; have a143 := L.a143; have z143 := L.z143; have v143 := L.v143
  have FG := L.f175
  have S0 := Aside0.mk S
  have RR := Aside0.mk R
  clear S R
  go_enter FG, Tryz.ntmps175
  go_wp2_with fail
  go_loopw [10] (fun v10 wr => ∃ (i : Nat) (dk : Array α), v10 = .int .i64 i ∧ i ≤ n ∧ Aside0 (SWK enc k w0 g o dk wr) ∧ Aside0 (IsSw d dk a b i)) (fun v10 _ => n - (intOf v10).toNat)
  case atStart => exact ⟨0, d, rfl, by omega, S0, ⟨IsSw.zero d a b⟩⟩
  case round =>
    obtain ⟨i, dk, rfl, hi, hK, hI⟩ := hrel
    by_cases hlt : i < n
    · obtain ⟨p, hp⟩ : ∃ p : Nat, (a : Int) + (i : Int) = (p : Int) := ⟨a + i, by omega⟩
      obtain ⟨q, hq⟩ : ∃ q : Nat, (b : Int) + (i : Int) = (q : Int) := ⟨b + i, by omega⟩
      have hps : p < dk.size := by rw [hI.out.1]; omega
      have hqs : q < dk.size := by rw [hI.out.1]; omega
      have hps2 : p < d0.size := by omega
      have hqs2 : q < d0.size := by omega
      have hds : dk.size = d0.size := by rw [hI.out.1, hs]
      have wp_ : IntKind.i64.wrap (p : Int) = (p : Int) := by rw [IntKind.wrap_i64]; omega
      have wq_ : IntKind.i64.wrap (q : Int) = (q : Int) := by rw [IntKind.wrap_i64]; omega
      have S2 := Aside0.mk (hK.out.swapped RR.out p q hps hqs)
      have la := hK.out.ld1 RR.out hds P p hps
      have lb := hK.out.ld1 RR.out hds P q hqs
      have sa := hK.out.st1 RR.out hds P p hps dk[q]!
      have sb := hK.out.st2 RR.out hds P p q hps hqs dk[q]! dk[p]!
      have na : (enc dk[p]!).length = k := RR.out.hk _
      have nb : (enc dk[q]!).length = k := RR.out.hk _
      have HI2 := Aside0.mk (hI.out.step (by omega) (by omega))
      have ep : a + i = p := by omega
      have eq_ : b + i = q := by omega
      rw [ep, eq_] at HI2
      generalize enc dk[p]! = cI at S2 la sb na
      generalize enc dk[q]! = cJ at S2 lb sa sb nb
      clear hK hI hds hps hqs
      go_wp2_with fail
      go_big_region_o
      clear la lb sa sb
      generalize (wr.drew.setCells g (o + p * k) cJ).setCells g (o + q * k) cI = w2 at S2 ⊢
      go_wp2_with fail
      go_roundw
      case rel => exact ⟨i + 1, _, by push_cast; rfl, by omega, S2, HI2⟩
      case measure => simp [intOf]; omega
    · obtain rfl : i = n := by omega
      go_wp2_with fail
      go_end0
      exact ⟨rfl, dk, hK.out, hI.out⟩

set_option maxHeartbeats 4000000 in
set_option maxRecDepth 100000 in
theorem rotate_g (L : SG P) (k : Nat) (aE : ∀ w, (isAgg 44).run P w = .ok true w) (zE : ∀ w, (Go.sizeOf 44).run P w = .ok k w) (enc : α → List Value) (f : Value) (g o c0 : Nat) (d0 d : Array α) (w0 W : World) (R : RowK enc k w0 g o d0) (hs : d.size = d0.size) (S : SWK enc k w0 g o d W) (a m b : Nat) (h1 : a < m) (h2 : m < b) (h3 : b ≤ d0.size) (hsz : d0.size ≤ 1000) :
    Calls P 158 #[.slice (some ⟨g, o, none⟩) d0.size c0, .int .i64 a, .int .i64 m, .int .i64 b, f] W fun e w' => e = .returned (.tuple #[]) ∧ ∃ d', SWK enc k w0 g o d' w' ∧ IsRot d d' a m b := by
  have mixed := L.mixed; have t0 := L.t0; have a0 := L.a0; have z0 := L.z0; have v0 := L.v0; have t3 := L.t3; have a3 := L.a3; have z3 := L.z3; have v3 := L.v3; have t4 := L.t4; have a4 := L.a4; have z4 := L.z4; have v4 := L.v4; have t22 := L.t22; have a22 := L.a22; have z22 := L.z22; have v22 := L.v22; have t97 := L.t97; have a97 := L.a97; have z97 := L.z97; have v97 := L.v97; have t143 := L.t143; have a143 := L.a143; have z143 := L.z143; have v143 := L.v143
  have e175 : ∀ args w, (callFunc 175 args).run P w = .ok (.enter 175 args) w := enters_of L.f175 (by kernel_rfl) rfl
  have FG := L.f158
  have h175 : ∀ (dk : Array α) (wr : World) (p q n : Nat), dk.size = d0.size → SWK enc k w0 g o dk wr → p + n ≤ q → q + n ≤ d0.size → Calls P 175 #[.slice (some ⟨g, o, none⟩) d0.size c0, .int .i64 p, .int .i64 q, .int .i64 n, f] wr fun e w' => e = .returned (.tuple #[]) ∧ ∃ d', SWK enc k w0 g o d' w' ∧ IsSw dk d' p q n :=
    fun dk wr p q n hd hS hp hq => swapRange_g L k aE zE enc f g o c0 d0 dk w0 wr R hd hS p q n hp hq hsz
  have H175 := Aside0.mk h175
  have S0 := Aside0.mk S
  have HS := Aside0.mk hs
  clear S R h175
  obtain ⟨i0, hi0⟩ : ∃ i0 : Nat, (m : Int) - (a : Int) = (i0 : Int) := ⟨m - a, by omega⟩
  obtain ⟨j0, hj0⟩ : ∃ j0 : Nat, (b : Int) - (m : Int) = (j0 : Int) := ⟨b - m, by omega⟩
  go_enter FG, Tryz.ntmps158
  go_wp2_with fail
  go_loopw [10, 11] (fun v10 v11 wr => ∃ (i j : Nat) (dk : Array α), v10 = .int .i64 i ∧ v11 = .int .i64 j ∧ 0 < i ∧ 0 < j ∧ a + i ≤ m ∧ m + j ≤ b ∧ Aside0 (SWK enc k w0 g o dk wr) ∧ Aside0 (RotRem d dk a m b i j)) (fun v10 v11 _ => (intOf v10).toNat + (intOf v11).toNat)
  case atStart => exact ⟨i0, j0, d, rfl, rfl, by omega, by omega, by omega, by omega, S0, ⟨by rw [show i0 = m - a by omega, show j0 = b - m by omega]; exact RotRem.start d (by omega) (by omega)⟩⟩
  case round =>
    obtain ⟨i, j, dk, rfl, rfl, hi, hj, him, hjb, hK, hI⟩ := hrel
    have hds : dk.size = d0.size := by rw [hI.out.1, HS.out]
    obtain ⟨p, hp⟩ : ∃ p : Nat, (m : Int) - (i : Int) = (p : Int) := ⟨m - i, by omega⟩
    by_cases hne : i = j
    · have e1 : ((i : Int) != (j : Int)) = false := by rw [bne_eq_false_iff_eq]; omega
      subst hne
      have hc := H175.out dk wr p m i hds hK.out (by omega) (by omega)
      have HC := Aside0.mk hc
      clear hc
      go_wp2_with (first | (go_at_fn 175; refine HC.out.mono ?_; rintro e w1 ⟨rfl, d1, hS1, hW1⟩; have X1 := Aside0.mk hS1; have Y1 := Aside0.mk hW1; clear hS1 hW1))
      go_end0
      exact ⟨rfl, d1, X1.out, hI.out.fin (by omega) (by rw [show m - i = p by omega]; exact Y1.out)⟩
    · have e1 : ((i : Int) != (j : Int)) = true := by rw [bne_iff_ne]; omega
      by_cases hgt : j < i
      · have e2 : decide ((i : Int) > (j : Int)) = true := decide_eq_true (by omega)
        have hc := H175.out dk wr p m j hds hK.out (by omega) (by omega)
        have HC := Aside0.mk hc
        obtain ⟨i', hi'⟩ : ∃ i' : Nat, (i : Int) - (j : Int) = (i' : Int) := ⟨i - j, by omega⟩
        clear hc
        go_wp2_with (first | (go_at_fn 175; refine HC.out.mono ?_; rintro e w1 ⟨rfl, d1, hS1, hW1⟩; have X1 := Aside0.mk hS1; have Y1 := Aside0.mk hW1; clear hS1 hW1))
        go_roundw
        case rel => exact ⟨i', j, d1, rfl, rfl, by omega, hj, by omega, hjb, X1, ⟨by rw [show i' = i - j by omega]; exact hI.out.great hgt (by omega) (by rw [show m - i = p by omega]; exact Y1.out)⟩⟩
        case measure => simp [intOf]; omega
      · have e2 : decide ((i : Int) > (j : Int)) = false := decide_eq_false (by omega)
        have e3 : ¬ (j : Int) < (i : Int) := by omega
        obtain ⟨q, hq⟩ : ∃ q : Nat, (m : Int) + (j : Int) - (i : Int) = (q : Int) := ⟨m + j - i, by omega⟩
        have hc := H175.out dk wr p q i hds hK.out (by omega) (by omega)
        have HC := Aside0.mk hc
        obtain ⟨j', hj'⟩ : ∃ j' : Nat, (j : Int) - (i : Int) = (j' : Int) := ⟨j - i, by omega⟩
        clear hc
        go_wp2_with (first | (go_at_fn 175; refine HC.out.mono ?_; rintro e w1 ⟨rfl, d1, hS1, hW1⟩; have X1 := Aside0.mk hS1; have Y1 := Aside0.mk hW1; clear hS1 hW1))
        go_roundw
        case rel => exact ⟨i, j', d1, rfl, rfl, hi, by omega, him, by omega, X1, ⟨by rw [show j' = j - i by omega]; exact hI.out.small (by omega) (by omega) (by rw [show m - i = p by omega, show m + j - i = q by omega]; exact Y1.out)⟩⟩
        case measure => simp [intOf]; omega
end Go.Proofs.YtkmcbpkciakmeaaGreatDoor.PA

/- slices.symMergeCmpFunc of entries: two sorted blocks become one; equals keep their order. (The program is a variable: what the walk asks of it stands in 'SG'; so are an element's cells.) -/
set_option linter.unusedVariables false
set_option linter.unusedSimpArgs false
namespace Go.Proofs.YtkmcbpkciakmeaaGreatDoor.PA
open Go.Shelf Go.Sort Go.RowKit Go.Proofs.YtkmcbpkciakmeaaGreatDoorW.PrintWords Go.Proofs.YtkmcbpkciakmeaaGreatDoorW.PrintLast Go.Proofs.YtkmcbpkciakmeaaGreatDoorW.PrintMore
variable {P : Program} {α : Type} [Inhabited α]

set_option maxHeartbeats 16000000 in
set_option maxRecDepth 100000 in
theorem symMerge_g (L : SG P) (k : Nat) (aE : ∀ w, (isAgg 44).run P w = .ok true w) (zE : ∀ w, (Go.sizeOf 44).run P w = .ok k w) (enc : α → List Value) (cf : α → α → Int) (gf : Nat) (cb : Array Value) (eg : ∀ args w, (callFunc gf args).run P w = .ok (.enter gf args) w) (hSW : SWO (ltOf cf)) (g o c0 : Nat) (d0 : Array α) (w0 : World) (hcmp : CmpLays P gf cb enc k cf g o d0.size w0) (R : RowK enc k w0 g o d0) (hsz : d0.size ≤ 1000) :
    ∀ (dep a m b : Nat), b - a ≤ dep → a < m → m < b → b ≤ d0.size → ∀ (d : Array α) (W : World), d.size = d0.size → SWK enc k w0 g o d W → SortedIn (ltOf cf) a m d → SortedIn (ltOf cf) m b d →
    Calls P 134 #[.slice (some ⟨g, o, none⟩) d0.size c0, .int .i64 a, .int .i64 m, .int .i64 b, .func (.func gf) #[] cb] W fun e w' => e = .returned (.tuple #[]) ∧ ∃ d', SWK enc k w0 g o d' w' ∧ Mv (ltOf cf) a b d d' := by
  have mixed := L.mixed; have t0 := L.t0; have a0 := L.a0; have z0 := L.z0; have v0 := L.v0; have t3 := L.t3; have a3 := L.a3; have z3 := L.z3; have v3 := L.v3; have t4 := L.t4; have a4 := L.a4; have z4 := L.z4; have v4 := L.v4; have t22 := L.t22; have a22 := L.a22; have z22 := L.z22; have v22 := L.v22; have t97 := L.t97; have a97 := L.a97; have z97 := L.z97; have v97 := L.v97; have t143 := L.t143; have a143 := L.a143; have z143 := L.z143; have v143 := L.v143
  have e158 : ∀ args w, (callFunc 158 args).run P w = .ok (.enter 158 args) w := enters_of L.f158 (by kernel_rfl) rfl
  have e134 : ∀ args w, (callFunc 134 args).run P w = .ok (.enter 134 args) w := enters_of L.f134 (by kernel_rfl) rfl
  have FG := L.f134
  have h158 : ∀ (d : Array α) (wr : World) (s m e : Nat), d.size = d0.size → SWK enc k w0 g o d wr → s < m → m < e → e ≤ d0.size → Calls P 158 #[.slice (some ⟨g, o, none⟩) d0.size c0, .int .i64 s, .int .i64 m, .int .i64 e, .func (.func gf) #[] cb] wr fun e_ w' => e_ = .returned (.tuple #[]) ∧ ∃ d', SWK enc k w0 g o d' w' ∧ IsRot d d' s m e :=
    fun d wr s m e hd hS h1 h2 h3 => rotate_g L k aE zE enc _ g o c0 d0 d w0 wr R hd hS s m e h1 h2 h3 hsz
  have H158 := Aside0.mk h158
  have HC := Aside0.mk hcmp
  have RR := Aside0.mk R
  have SW := Aside0.mk hSW
  clear h158 hcmp R hSW
  intro dep
  induction dep with
  | zero => intro a m b h1 h2 h3; omega
  | succ dep ih =>
    intro a m b hd ham hmb hbx d W hds hS hs1 hs2
    have S0 := Aside0.mk hS
    have A1 := Aside0.mk hs1
    have A2 := Aside0.mk hs2
    have IH := Aside0.mk ih
    clear ih hS hs1 hs2
    by_cases k1 : m = a + 1
    · have t1 : ((m : Int) - (a : Int) == 1) = true := by rw [beq_iff_eq]; omega
      have HK1 := Aside0.mk k1
      clear k1
      go_enter FG, Tryz.ntmps134
      go_wp2_with fail
      go_loopw [10, 11] (fun v10 v11 wr => ∃ i j : Nat, v10 = .int .i64 i ∧ v11 = .int .i64 j ∧ m ≤ i ∧ i ≤ j ∧ j ≤ b ∧ Aside0 (∀ x, m ≤ x → x < i → ltOf cf d[x]! d[a]! = true) ∧ Aside0 (∀ x, j ≤ x → x < b → ltOf cf d[x]! d[a]! = false) ∧ Aside0 (SWK enc k w0 g o d wr)) (fun v10 v11 _ => (intOf v11).toNat - (intOf v10).toNat)
      case atStart => exact ⟨m, b, rfl, rfl, by omega, by omega, by omega, ⟨fun x h1 h2 => by omega⟩, ⟨fun x h1 h2 => by omega⟩, S0⟩
      case round =>
        clear S0
        obtain ⟨i, j, rfl, rfl, hi1, hij, hjb, hP, hQ, hA⟩ := hrel
        by_cases hlt : i < j
        · obtain ⟨h, he⟩ : ∃ h : Nat, ((i : Int) + (j : Int)) / 2 = (h : Int) := ⟨(i + j) / 2, by omega⟩
          have hh1 : i ≤ h := by omega
          have hh2 : h < j := by omega
          have hx1 : h < d.size := by omega
          have hy1 : a < d.size := by omega
          have hx21 : h < d0.size := by omega
          have hy21 : a < d0.size := by omega
          have la1 := hA.out.ld RR.out (by omega) P h hx1
          have lb1 := hA.out.ld RR.out (by omega) P a hy1
          obtain ⟨x1, ex1⟩ : ∃ x, x = d[h]! := ⟨_, rfl⟩
          obtain ⟨y1, ey1⟩ : ∃ x, x = d[a]! := ⟨_, rfl⟩
          rw [← ex1] at la1
          rw [← ey1] at lb1
          have hc1 := hA.out.cmp HC.out (by omega) x1 y1
          have EX1 := Aside0.mk ex1
          have EY1 := Aside0.mk ey1
          clear ex1 ey1
          by_cases hv1 : cf x1 y1 < 0
          · have HL1 : Aside0 (ltOf cf d[h]! d[a]! = true) := ⟨by rw [← EX1.out, ← EY1.out]; exact decide_eq_true hv1⟩
            have hd1 : decide (cf x1 y1 < 0) = true := decide_eq_true hv1
            go_wp2_with fail
            go_quiet_grown (first | (go_at_fn gf; refine Calls.grown_of (hc1 _ _)))
            have X2 : Aside0 (SWK enc k w0 g o d (grow (wr.drewN nq) osq)) := ⟨hA.out.grown nq osq⟩
            clear la1 lb1 hc1
            generalize grow (wr.drewN nq) osq = w2 at X2 ⊢
            go_wp2_with fail
            go_roundw
            case rel => exact ⟨h + 1, j, by push_cast; rfl, rfl, by omega, by omega, hjb, ⟨fun x y1 y2 => SWO.le_lt SW.out (SortedIn.le SW.out A2.out (i := x) (j := h) y1 (by omega) (by omega)) HL1.out⟩, hQ, X2⟩
            case measure => simp [intOf]; omega
          · have HL1 : Aside0 (ltOf cf d[h]! d[a]! = false) := ⟨by rw [← EX1.out, ← EY1.out]; exact decide_eq_false hv1⟩
            have hd1 : decide (cf x1 y1 < 0) = false := decide_eq_false hv1
            go_wp2_with fail
            go_quiet_grown (first | (go_at_fn gf; refine Calls.grown_of (hc1 _ _)))
            have X2 : Aside0 (SWK enc k w0 g o d (grow (wr.drewN nq) osq)) := ⟨hA.out.grown nq osq⟩
            clear la1 lb1 hc1
            generalize grow (wr.drewN nq) osq = w2 at X2 ⊢
            go_wp2_with fail
            go_roundw
            case rel => exact ⟨i, h, rfl, rfl, hi1, hh1, by omega, hP, ⟨fun x y1 y2 => SW.out.ntrans _ _ _ (SortedIn.le SW.out A2.out (i := h) (j := x) (by omega) y1 y2) HL1.out⟩, X2⟩
            case measure => simp [intOf]; omega
        · obtain rfl : i = j := by omega
          go_wp2_with fail
          go_loopw [13] (fun v13 wr => ∃ (kk : Nat) (dk : Array α), v13 = .int .i64 kk ∧ a ≤ kk ∧ kk + 1 ≤ i ∧ dk.size = d0.size ∧ Aside0 (IsRot d dk a (a + 1) (kk + 1)) ∧ Aside0 (SWK enc k w0 g o dk wr)) (fun v13 _ => i - (intOf v13).toNat)
          case atStart => exact ⟨a, d, rfl, by omega, by have := HK1.out; omega, hds, ⟨IsRot.one d a (a + 1)⟩, hA⟩
          case round =>
            clear hA
            obtain ⟨kk, dk, rfl, hk1, hk2, hdk, hI, hA⟩ := hrel
            by_cases hlt2 : kk + 1 < i
            · have hlt3 : (kk : Int) < (i : Int) - 1 := by omega
              obtain ⟨q, hq⟩ : ∃ q : Nat, (kk : Int) + 1 = (q : Int) := ⟨kk + 1, by omega⟩
              have hqk : q = kk + 1 := by omega
              have HI2 := Aside0.mk (hI.out.up hk1 (by omega))
              rw [← hqk] at HI2
              have HQK := Aside0.mk hqk
              have hqb : q < d0.size := by omega
              have hkb : kk < d0.size := by omega
              clear hqk
              have hps2 : kk < dk.size := by omega
              have hqs2 : q < dk.size := by omega
              have hps22 : kk < d0.size := by omega
              have hqs22 : q < d0.size := by omega
              have wp2 : IntKind.i64.wrap (kk : Int) = (kk : Int) := by rw [IntKind.wrap_i64]; omega
              have wq2 : IntKind.i64.wrap (q : Int) = (q : Int) := by rw [IntKind.wrap_i64]; omega
              have S2 := Aside0.mk (hA.out.swapped RR.out kk q hps2 hqs2)
              have la := hA.out.ld1 RR.out (by omega) P kk hps2
              have lb := hA.out.ld1 RR.out (by omega) P q hqs2
              have sa := hA.out.st1 RR.out (by omega) P kk hps2 dk[q]!
              have sb := hA.out.st2 RR.out (by omega) P kk q hps2 hqs2 dk[q]! dk[kk]!
              have na : (enc dk[kk]!).length = k := RR.out.hk _
              have nb : (enc dk[q]!).length = k := RR.out.hk _
              generalize enc dk[kk]! = cI at S2 la sb na
              generalize enc dk[q]! = cJ at S2 lb sa sb nb
              clear hps2 hqs2
              go_wp2_with fail
              go_big_region_o
              clear la lb sa sb
              generalize (wr.drew.setCells g (o + kk * k) cJ).setCells g (o + q * k) cI = w2 at S2 ⊢
              go_wp2_with fail
              go_roundw
              case rel => exact ⟨q, _, rfl, by omega, by have := HQK.out; omega, by rw [swp_size]; exact hdk, ⟨by rw [show q + 1 = kk + 2 by have := HQK.out; omega]; exact HI2.out⟩, S2⟩
              case measure => simp [intOf]; have := HQK.out; omega
            · have hlt3 : ¬ ((kk : Int) < (i : Int) - 1) := by omega
              go_wp2_with fail
              refine bodyPost_ret (results_none rfl _ _ _) rfl ?_
              refine ⟨rfl, dk, hA.out, ?_⟩
              have hki : kk + 1 = i := by omega
              have hm := HK1.out
              subst hm
              exact first_in SW.out (by omega) A2.out hi1 hjb hP.out hQ.out (by rw [← hki]; exact hI.out)
    · have t1 : ((m : Int) - (a : Int) == 1) = false := by rw [beq_eq_false_iff_ne]; omega
      by_cases k2 : b = m + 1
      · have t2 : ((b : Int) - (m : Int) == 1) = true := by rw [beq_iff_eq]; omega
        have HK2 := Aside0.mk k2
        clear k1 k2
        go_enter FG, Tryz.ntmps134
        go_wp2_with fail
        go_loopw [14, 15] (fun v14 v15 wr => ∃ i j : Nat, v14 = .int .i64 i ∧ v15 = .int .i64 j ∧ a ≤ i ∧ i ≤ j ∧ j ≤ m ∧ Aside0 (∀ x, a ≤ x → x < i → ltOf cf d[m]! d[x]! = false) ∧ Aside0 (∀ x, j ≤ x → x < m → ltOf cf d[m]! d[x]! = true) ∧ Aside0 (SWK enc k w0 g o d wr)) (fun v14 v15 _ => (intOf v15).toNat - (intOf v14).toNat)
        case atStart => exact ⟨a, m, rfl, rfl, by omega, by omega, by omega, ⟨fun x h1 h2 => by omega⟩, ⟨fun x h1 h2 => by omega⟩, S0⟩
        case round =>
          clear S0
          obtain ⟨i, j, rfl, rfl, hi1, hij, hjb, hP, hQ, hA⟩ := hrel
          by_cases hlt : i < j
          · obtain ⟨h, he⟩ : ∃ h : Nat, ((i : Int) + (j : Int)) / 2 = (h : Int) := ⟨(i + j) / 2, by omega⟩
            have hh1 : i ≤ h := by omega
            have hh2 : h < j := by omega
            have hx3 : m < d.size := by omega
            have hy3 : h < d.size := by omega
            have hx23 : m < d0.size := by omega
            have hy23 : h < d0.size := by omega
            have la3 := hA.out.ld RR.out (by omega) P m hx3
            have lb3 := hA.out.ld RR.out (by omega) P h hy3
            obtain ⟨x3, ex3⟩ : ∃ x, x = d[m]! := ⟨_, rfl⟩
            obtain ⟨y3, ey3⟩ : ∃ x, x = d[h]! := ⟨_, rfl⟩
            rw [← ex3] at la3
            rw [← ey3] at lb3
            have hc3 := hA.out.cmp HC.out (by omega) x3 y3
            have EX3 := Aside0.mk ex3
            have EY3 := Aside0.mk ey3
            clear ex3 ey3
            by_cases hv3 : cf x3 y3 < 0
            · have HL3 : Aside0 (ltOf cf d[m]! d[h]! = true) := ⟨by rw [← EX3.out, ← EY3.out]; exact decide_eq_true hv3⟩
              have hd3 : decide (cf x3 y3 < 0) = true := decide_eq_true hv3
              go_wp2_with fail
              go_quiet_grown (first | (go_at_fn gf; refine Calls.grown_of (hc3 _ _)))
              have X2 : Aside0 (SWK enc k w0 g o d (grow (wr.drewN nq) osq)) := ⟨hA.out.grown nq osq⟩
              clear la3 lb3 hc3
              generalize grow (wr.drewN nq) osq = w2 at X2 ⊢
              go_wp2_with fail
              go_roundw
              case rel => exact ⟨i, h, rfl, rfl, hi1, hh1, by omega, hP, ⟨fun x y1 y2 => SWO.lt_le SW.out HL3.out (SortedIn.le SW.out A1.out (i := h) (j := x) (by omega) y1 y2)⟩, X2⟩
              case measure => simp [intOf]; omega
            · have HL3 : Aside0 (ltOf cf d[m]! d[h]! = false) := ⟨by rw [← EX3.out, ← EY3.out]; exact decide_eq_false hv3⟩
              have hd3 : decide (cf x3 y3 < 0) = false := decide_eq_false hv3
              go_wp2_with fail
              go_quiet_grown (first | (go_at_fn gf; refine Calls.grown_of (hc3 _ _)))
              have X2 : Aside0 (SWK enc k w0 g o d (grow (wr.drewN nq) osq)) := ⟨hA.out.grown nq osq⟩
              clear la3 lb3 hc3
              generalize grow (wr.drewN nq) osq = w2 at X2 ⊢
              go_wp2_with fail
              go_roundw
              case rel => exact ⟨h + 1, j, by push_cast; rfl, rfl, by omega, by omega, hjb, ⟨fun x y1 y2 => SW.out.ntrans _ _ _ HL3.out (SortedIn.le SW.out A1.out (i := x) (j := h) y1 (by omega) (by omega))⟩, hQ, X2⟩
              case measure => simp [intOf]; omega
          · obtain rfl : i = j := by omega
            go_wp2_with fail
            go_loopw [17] (fun v17 wr => ∃ (kk : Nat) (dk : Array α), v17 = .int .i64 kk ∧ i ≤ kk ∧ kk ≤ m ∧ dk.size = d0.size ∧ Aside0 (IsRot d dk kk m (m + 1)) ∧ Aside0 (SWK enc k w0 g o dk wr)) (fun v17 _ => (intOf v17).toNat)
            case atStart => exact ⟨m, d, rfl, by omega, by omega, hds, ⟨IsRot.none_ d m (m + 1)⟩, hA⟩
            case round =>
              clear hA
              obtain ⟨kk, dk, rfl, hk1, hk2, hdk, hI, hA⟩ := hrel
              by_cases hlt2 : i < kk
              · have hlt3 : (kk : Int) > (i : Int) := by omega
                have hlt4 : decide ((kk : Int) > (i : Int)) = true := decide_eq_true hlt3
                obtain ⟨q, hq⟩ : ∃ q : Nat, (kk : Int) - 1 = (q : Int) := ⟨kk - 1, by omega⟩
                have hqk : kk = q + 1 := by omega
                have hIq := hI.out
                rw [hqk] at hIq
                have HI2 := Aside0.mk (hIq.down (by omega) (by omega))
                rw [← hqk] at HI2
                have HQK := Aside0.mk hqk
                have hqb : q < d0.size := by omega
                have hkb : kk < d0.size := by omega
                clear hqk hIq
                have hps4 : kk < dk.size := by omega
                have hqs4 : q < dk.size := by omega
                have hps24 : kk < d0.size := by omega
                have hqs24 : q < d0.size := by omega
                have wp4 : IntKind.i64.wrap (kk : Int) = (kk : Int) := by rw [IntKind.wrap_i64]; omega
                have wq4 : IntKind.i64.wrap (q : Int) = (q : Int) := by rw [IntKind.wrap_i64]; omega
                have S2 := Aside0.mk (hA.out.swapped RR.out kk q hps4 hqs4)
                have la := hA.out.ld1 RR.out (by omega) P kk hps4
                have lb := hA.out.ld1 RR.out (by omega) P q hqs4
                have sa := hA.out.st1 RR.out (by omega) P kk hps4 dk[q]!
                have sb := hA.out.st2 RR.out (by omega) P kk q hps4 hqs4 dk[q]! dk[kk]!
                have na : (enc dk[kk]!).length = k := RR.out.hk _
                have nb : (enc dk[q]!).length = k := RR.out.hk _
                generalize enc dk[kk]! = cI at S2 la sb na
                generalize enc dk[q]! = cJ at S2 lb sa sb nb
                clear hps4 hqs4
                go_wp2_with fail
                go_big_region_o
                clear la lb sa sb
                generalize (wr.drew.setCells g (o + kk * k) cJ).setCells g (o + q * k) cI = w2 at S2 ⊢
                go_wp2_with fail
                go_roundw
                case rel => exact ⟨q, _, rfl, by have := HQK.out; omega, by have := HQK.out; omega, by rw [swp_size]; exact hdk, HI2, S2⟩
                case measure => simp [intOf]; have := HQK.out; omega
              · have hlt3 : ¬ ((kk : Int) > (i : Int)) := by omega
                have hlt4 : decide ((kk : Int) > (i : Int)) = false := decide_eq_false hlt3
                go_wp2_with fail
                refine bodyPost_ret (results_none rfl _ _ _) rfl ?_
                refine ⟨rfl, dk, hA.out, ?_⟩
                obtain rfl : kk = i := by omega
                have hm := HK2.out
                subst hm
                exact last_in SW.out (by omega) A1.out hi1 hjb hP.out hQ.out hI.out
      · have t2 : ((b : Int) - (m : Int) == 1) = false := by rw [beq_eq_false_iff_ne]; omega
        obtain ⟨mid, hmid⟩ : ∃ mid : Nat, ((a : Int) + (b : Int)) / 2 = (mid : Int) := ⟨(a + b) / 2, by omega⟩
        have hm1 : a < mid := by omega
        have hm2 : mid < b := by omega
        obtain ⟨pp, hP⟩ : ∃ pp : Nat, (mid : Int) + (m : Int) - 1 = (pp : Int) := ⟨mid + m - 1, by omega⟩
        have hPn : pp + 1 = mid + m := by omega
        have HPN := Aside0.mk hPn
        have HM2 : Aside0 (2 * mid ≤ a + b ∧ a + b ≤ 2 * mid + 1) := ⟨by omega⟩
        -- behind the search
        have hfin : ∀ s e : Nat, s + e = mid + m → a ≤ s → s ≤ m → s ≤ mid → e ≤ b → (a < s → e < b → ltOf cf d[e]! d[s - 1]! = false) → (s < m → m < e → ltOf cf d[e - 1]! d[s]! = true) →
            SymAt (ltOf cf) d a m b mid s e := fun s e y1 y2 y3 y4 y5 y6 y7 => ⟨hm1, hm2, y1, y2, y3, by omega, y5, y4, y6, y7⟩
        have HF := Aside0.mk hfin
        clear hfin hPn
        by_cases k3 : mid < m
        · have t3 : (mid : Int) < (m : Int) := by omega
          have t3d : decide ((m : Int) > (mid : Int)) = true := decide_eq_true (by omega)
          obtain ⟨st, hst⟩ : ∃ st : Nat, (mid : Int) + (m : Int) - (b : Int) = (st : Int) := ⟨mid + m - b, by have := HM2.out; omega⟩
          have hsn : st + b = mid + m := by omega
          have hsm : st ≤ mid := by omega
          clear k1 k2
          go_enter FG, Tryz.ntmps134
          go_wp2_with fail
          go_loopw [20, 21] (fun v20 v21 wr => ∃ s r : Nat, v20 = .int .i64 s ∧ v21 = .int .i64 r ∧ st ≤ s ∧ s ≤ r ∧ r ≤ mid ∧ Aside0 (st < s → ltOf cf d[pp + 1 - s]! d[s - 1]! = false) ∧ Aside0 (r < mid → ltOf cf d[pp - r]! d[r]! = true) ∧ Aside0 (SWK enc k w0 g o d wr)) (fun v20 v21 _ => (intOf v21).toNat - (intOf v20).toNat)
          case atStart => exact ⟨st, mid, rfl, rfl, by omega, by omega, by omega, ⟨fun h => by omega⟩, ⟨fun h => by omega⟩, S0⟩
          case round =>
            clear S0
            obtain ⟨s, r, rfl, rfl, hs1, hsr, hr1, hU, hV, hA⟩ := hrel
            by_cases hlt : s < r
            · obtain ⟨c, he⟩ : ∃ c : Nat, ((s : Int) + (r : Int)) / 2 = (c : Int) := ⟨(s + r) / 2, by omega⟩
              have hh1 : s ≤ c := by omega
              have hh2 : c < r := by omega
              obtain ⟨pc, hpc⟩ : ∃ pc : Nat, (pp : Int) - (c : Int) = (pc : Int) := ⟨pp - c, by have := HPN.out; omega⟩
              have hpb : pc < b := by have := HPN.out; have := HM2.out; omega
              have hwpc : IntKind.i64.wrap (pc : Int) = (pc : Int) := by rw [IntKind.wrap_i64]; omega
              have HPC : Aside0 (pc = pp - c ∧ c ≤ pp) := ⟨by have := HPN.out; omega⟩
              have hx5 : pc < d.size := by omega
              have hy5 : c < d.size := by omega
              have hx25 : pc < d0.size := by omega
              have hy25 : c < d0.size := by omega
              have la5 := hA.out.ld RR.out (by omega) P pc hx5
              have lb5 := hA.out.ld RR.out (by omega) P c hy5
              obtain ⟨x5, ex5⟩ : ∃ x, x = d[pc]! := ⟨_, rfl⟩
              obtain ⟨y5, ey5⟩ : ∃ x, x = d[c]! := ⟨_, rfl⟩
              rw [← ex5] at la5
              rw [← ey5] at lb5
              have hc5 := hA.out.cmp HC.out (by omega) x5 y5
              have EX5 := Aside0.mk ex5
              have EY5 := Aside0.mk ey5
              clear ex5 ey5
              by_cases hv5 : cf x5 y5 < 0
              · have HL5 : Aside0 (ltOf cf d[pc]! d[c]! = true) := ⟨by rw [← EX5.out, ← EY5.out]; exact decide_eq_true hv5⟩
                have hd5 : decide (cf x5 y5 < 0) = true := decide_eq_true hv5
                go_wp2_with fail
                go_quiet_grown (first | (go_at_fn gf; refine Calls.grown_of (hc5 _ _)))
                have X2 : Aside0 (SWK enc k w0 g o d (grow (wr.drewN nq) osq)) := ⟨hA.out.grown nq osq⟩
                clear la5 lb5 hc5
                generalize grow (wr.drewN nq) osq = w2 at X2 ⊢
                go_wp2_with fail
                go_roundw
                case rel => exact ⟨s, c, rfl, rfl, hs1, hh1, by omega, hU, ⟨fun _ => by rw [← HPC.out.1]; exact HL5.out⟩, X2⟩
                case measure => simp [intOf]; omega
              · have HL5 : Aside0 (ltOf cf d[pc]! d[c]! = false) := ⟨by rw [← EX5.out, ← EY5.out]; exact decide_eq_false hv5⟩
                have hd5 : decide (cf x5 y5 < 0) = false := decide_eq_false hv5
                go_wp2_with fail
                go_quiet_grown (first | (go_at_fn gf; refine Calls.grown_of (hc5 _ _)))
                have X2 : Aside0 (SWK enc k w0 g o d (grow (wr.drewN nq) osq)) := ⟨hA.out.grown nq osq⟩
                clear la5 lb5 hc5
                generalize grow (wr.drewN nq) osq = w2 at X2 ⊢
                go_wp2_with fail
                go_roundw
                case rel => exact ⟨c + 1, r, by push_cast; rfl, rfl, by omega, by omega, hr1, ⟨fun _ => by rw [show pp + 1 - (c + 1) = pc by have := HPC.out; omega, show c + 1 - 1 = c by omega]; exact HL5.out⟩, hV, X2⟩
                case measure => simp [intOf]; omega
            · obtain rfl : s = r := by omega
              have YS : Aside0 (a ≤ s ∧ s ≤ m ∧ s ≤ mid ∧ mid + m ≤ s + b ∧ (∀ e, s + e = mid + m → a < s → e < b → ltOf cf d[e]! d[s - 1]! = false) ∧ (∀ e, s + e = mid + m → s < m → m < e → ltOf cf d[e - 1]! d[s]! = true)) := ⟨by
                have w1 := HPN.out
                have w2 := HM2.out
                refine ⟨by omega, by omega, by omega, by omega, fun e y1 y2 y3 => ?_, fun e y1 y2 y3 => ?_⟩
                · have := hU.out (by omega)
                  rwa [show pp + 1 - s = e by omega] at this
                · have := hV.out (by omega)
                  rwa [show pp - s = e - 1 by omega] at this⟩
              obtain ⟨e, he⟩ : ∃ e : Nat, (mid : Int) + (m : Int) - (s : Int) = (e : Int) := ⟨mid + m - s, by have := HPN.out; omega⟩
              have hse : s + e = mid + m := by omega
              have PA := Aside0.mk (HF.out s e hse YS.out.1 YS.out.2.1 YS.out.2.2.1 (by have := YS.out.2.2.2.1; omega) (fun q1 q2 => YS.out.2.2.2.2.1 e hse q1 q2) (fun q1 q2 => YS.out.2.2.2.2.2 e hse q1 q2))
              obtain ⟨z1, z2, z3, z4, z5, z6, z7, z8, _, _⟩ := PA.out
              have NROT : Aside0 (¬ (s < m ∧ m < e) → IsRot d d s m e) := ⟨fun hn => by
                by_cases c : s = m
                · subst c; exact IsRot.none_ d s e
                · obtain rfl : m = e := by omega
                  exact IsRot.one d s m⟩
              have NL : Aside0 (∀ d1 : Array α, IsRot d d1 s m e → ¬ (a < s ∧ s < mid) → Mv (ltOf cf) a mid d1 d1) := ⟨fun d1 hr hn => by
                obtain ⟨q1, q2, _, _, _⟩ := PA.out.halves SW.out A1.out A2.out hr
                by_cases c : a = s
                · rw [← c] at q2; exact Mv.of_sorted q2
                · obtain rfl : s = mid := by omega
                  exact Mv.of_sorted q1⟩
              have RS : Aside0 (∀ d1 d2 : Array α, IsRot d d1 s m e → Mv (ltOf cf) a mid d1 d2 → SortedIn (ltOf cf) mid e d2 ∧ SortedIn (ltOf cf) e b d2) := ⟨fun d1 d2 hr hL => by
                obtain ⟨_, _, q1, q2, _⟩ := PA.out.halves SW.out A1.out A2.out hr
                exact ⟨SortedIn.congr q1 fun i y1 y2 => hL.out i (.inr y1), SortedIn.congr q2 fun i y1 y2 => hL.out i (.inr (by omega))⟩⟩
              have NR : Aside0 (∀ d1 d2 : Array α, IsRot d d1 s m e → Mv (ltOf cf) a mid d1 d2 → ¬ (mid < e ∧ e < b) → Mv (ltOf cf) mid b d2 d2) := ⟨fun d1 d2 hr hL hn => by
                obtain ⟨q1, q2⟩ := RS.out d1 d2 hr hL
                by_cases c : mid = e
                · rw [← c] at q2; exact Mv.of_sorted q2
                · obtain rfl : e = b := by omega
                  exact Mv.of_sorted q1⟩
              have HA158 : Aside0 (s < m → m < e → ∀ wr, SWK enc k w0 g o d wr → Calls P 158 #[.slice (some ⟨g, o, none⟩) d0.size c0, .int .i64 s, .int .i64 m, .int .i64 e, .func (.func gf) #[] cb] wr fun e_ w' => e_ = .returned (.tuple #[]) ∧ ∃ d', SWK enc k w0 g o d' w' ∧ IsRot d d' s m e) := ⟨fun y1 y2 wr hS => H158.out d wr s m e hds hS y1 y2 (by omega)⟩
              have HLC : Aside0 (a < s → s < mid → ∀ d1 wr, SWK enc k w0 g o d1 wr → IsRot d d1 s m e → Calls P 134 #[.slice (some ⟨g, o, none⟩) d0.size c0, .int .i64 a, .int .i64 s, .int .i64 mid, .func (.func gf) #[] cb] wr fun e_ w' => e_ = .returned (.tuple #[]) ∧ ∃ d', SWK enc k w0 g o d' w' ∧ Mv (ltOf cf) a mid d1 d') := ⟨fun y1 y2 d1 wr hS hr => by
                obtain ⟨q1, q2, _, _, _⟩ := PA.out.halves SW.out A1.out A2.out hr
                exact IH.out a s mid (by omega) y1 y2 (by omega) d1 wr (by rw [hr.1]; exact hds) hS q1 q2⟩
              have HRC : Aside0 (mid < e → e < b → ∀ d1 d2 wr, SWK enc k w0 g o d2 wr → IsRot d d1 s m e → Mv (ltOf cf) a mid d1 d2 → Calls P 134 #[.slice (some ⟨g, o, none⟩) d0.size c0, .int .i64 mid, .int .i64 e, .int .i64 b, .func (.func gf) #[] cb] wr fun e_ w' => e_ = .returned (.tuple #[]) ∧ ∃ d', SWK enc k w0 g o d' w' ∧ Mv (ltOf cf) mid b d2 d') := ⟨fun y1 y2 d1 d2 wr hS hr hL => by
                obtain ⟨q1, q2⟩ := RS.out d1 d2 hr hL
                exact IH.out mid e b (by omega) y1 y2 hbx d2 wr (by rw [hL.size, hr.1]; exact hds) hS q1 q2⟩
              have FIN : Aside0 (∀ d1 d2 d3 : Array α, IsRot d d1 s m e → Mv (ltOf cf) a mid d1 d2 → Mv (ltOf cf) mid b d2 d3 → Mv (ltOf cf) a b d d3) := ⟨fun d1 d2 d3 hr hL hR => PA.out.merged SW.out (by omega) A1.out A2.out hr hL hR⟩
              by_cases gA : s < m ∧ m < e
              · obtain ⟨gA1, gA2⟩ := gA
                have fA1 : decide ((s : Int) < (m : Int)) = true := decide_eq_true (by omega)
                have fA2 : decide ((m : Int) < (e : Int)) = true := decide_eq_true (by omega)
                by_cases gB : a < s ∧ s < mid
                · obtain ⟨gB1, gB2⟩ := gB
                  have fB1 : decide ((a : Int) < (s : Int)) = true := decide_eq_true (by omega)
                  have fB2 : decide ((s : Int) < (mid : Int)) = true := decide_eq_true (by omega)
                  by_cases gC : mid < e ∧ e < b
                  · obtain ⟨gC1, gC2⟩ := gC
                    have fC1 : decide ((mid : Int) < (e : Int)) = true := decide_eq_true (by omega)
                    have fC2 : decide ((e : Int) < (b : Int)) = true := decide_eq_true (by omega)
                    go_wp2_with (first | (go_at_fn 158; refine (HA158.out gA1 gA2 _ hA.out).mono ?_; rintro e_ w1 ⟨rfl, d1, hS1, hW1⟩; have X1 := Aside0.mk hS1; have Y1 := Aside0.mk hW1; clear hS1 hW1) | (go_at_fn 134; refine (HRC.out gC1 gC2 _ _ _ X2.out Y1.out Y2.out).mono ?_; rintro e_ w3 ⟨rfl, d3, hS3, hW3⟩; have X3 := Aside0.mk hS3; have Y3 := Aside0.mk hW3; clear hS3 hW3) | (go_at_fn 134; refine (HLC.out gB1 gB2 _ _ X1.out Y1.out).mono ?_; rintro e_ w2 ⟨rfl, d2, hS2, hW2⟩; have X2 := Aside0.mk hS2; have Y2 := Aside0.mk hW2; clear hS2 hW2))
                    all_goals go_end0
                    all_goals exact ⟨rfl, _, X3.out, FIN.out _ _ _ Y1.out Y2.out Y3.out⟩
                  · have fC : (decide ((mid : Int) < (e : Int)) && decide ((e : Int) < (b : Int))) = false := by
                      rw [Bool.and_eq_false_iff, decide_eq_false_iff_not, decide_eq_false_iff_not]; omega
                    by_cases nnC : mid < e
                    · have fC1 : decide ((mid : Int) < (e : Int)) = true := decide_eq_true (by omega)
                      have fC2 : decide ((e : Int) < (b : Int)) = false := decide_eq_false (by omega)
                      have fC3 : ¬ ((e : Int) < (b : Int)) := by omega
                      go_wp2_with (first | (go_at_fn 158; refine (HA158.out gA1 gA2 _ hA.out).mono ?_; rintro e_ w1 ⟨rfl, d1, hS1, hW1⟩; have X1 := Aside0.mk hS1; have Y1 := Aside0.mk hW1; clear hS1 hW1) | (go_at_fn 134; refine (HLC.out gB1 gB2 _ _ X1.out Y1.out).mono ?_; rintro e_ w2 ⟨rfl, d2, hS2, hW2⟩; have X2 := Aside0.mk hS2; have Y2 := Aside0.mk hW2; clear hS2 hW2))
                      all_goals go_end0
                      all_goals exact ⟨rfl, _, X2.out, FIN.out _ _ _ Y1.out Y2.out (Aside0.mk (NR.out _ _ Y1.out Y2.out (by omega))).out⟩
                    · have fC1 : decide ((mid : Int) < (e : Int)) = false := decide_eq_false (by omega)
                      have fC3 : ¬ ((mid : Int) < (e : Int)) := by omega
                      go_wp2_with (first | (go_at_fn 158; refine (HA158.out gA1 gA2 _ hA.out).mono ?_; rintro e_ w1 ⟨rfl, d1, hS1, hW1⟩; have X1 := Aside0.mk hS1; have Y1 := Aside0.mk hW1; clear hS1 hW1) | (go_at_fn 134; refine (HLC.out gB1 gB2 _ _ X1.out Y1.out).mono ?_; rintro e_ w2 ⟨rfl, d2, hS2, hW2⟩; have X2 := Aside0.mk hS2; have Y2 := Aside0.mk hW2; clear hS2 hW2))
                      all_goals go_end0
                      all_goals exact ⟨rfl, _, X2.out, FIN.out _ _ _ Y1.out Y2.out (Aside0.mk (NR.out _ _ Y1.out Y2.out (by omega))).out⟩
                · have fB : (decide ((a : Int) < (s : Int)) && decide ((s : Int) < (mid : Int))) = false := by
                    rw [Bool.and_eq_false_iff, decide_eq_false_iff_not, decide_eq_false_iff_not]; omega
                  by_cases nnB : a < s
                  · have fB1 : decide ((a : Int) < (s : Int)) = true := decide_eq_true (by omega)
                    have fB2 : decide ((s : Int) < (mid : Int)) = false := decide_eq_false (by omega)
                    have fB3 : ¬ ((s : Int) < (mid : Int)) := by omega
                    by_cases gC : mid < e ∧ e < b
                    · obtain ⟨gC1, gC2⟩ := gC
                      have fC1 : decide ((mid : Int) < (e : Int)) = true := decide_eq_true (by omega)
                      have fC2 : decide ((e : Int) < (b : Int)) = true := decide_eq_true (by omega)
                      go_wp2_with (first | (go_at_fn 158; refine (HA158.out gA1 gA2 _ hA.out).mono ?_; rintro e_ w1 ⟨rfl, d1, hS1, hW1⟩; have X1 := Aside0.mk hS1; have Y1 := Aside0.mk hW1; clear hS1 hW1) | (go_at_fn 134; refine (HRC.out gC1 gC2 _ _ _ X1.out Y1.out (Aside0.mk (NL.out _ Y1.out (by omega))).out).mono ?_; rintro e_ w3 ⟨rfl, d3, hS3, hW3⟩; have X3 := Aside0.mk hS3; have Y3 := Aside0.mk hW3; clear hS3 hW3))
                      all_goals go_end0
                      all_goals exact ⟨rfl, _, X3.out, FIN.out _ _ _ Y1.out (Aside0.mk (NL.out _ Y1.out (by omega))).out Y3.out⟩
                    · have fC : (decide ((mid : Int) < (e : Int)) && decide ((e : Int) < (b : Int))) = false := by
                        rw [Bool.and_eq_false_iff, decide_eq_false_iff_not, decide_eq_false_iff_not]; omega
                      by_cases nnC : mid < e
                      · have fC1 : decide ((mid : Int) < (e : Int)) = true := decide_eq_true (by omega)
                        have fC2 : decide ((e : Int) < (b : Int)) = false := decide_eq_false (by omega)
                        have fC3 : ¬ ((e : Int) < (b : Int)) := by omega
                        go_wp2_with (first | (go_at_fn 158; refine (HA158.out gA1 gA2 _ hA.out).mono ?_; rintro e_ w1 ⟨rfl, d1, hS1, hW1⟩; have X1 := Aside0.mk hS1; have Y1 := Aside0.mk hW1; clear hS1 hW1))
                        all_goals go_end0
                        all_goals exact ⟨rfl, _, X1.out, FIN.out _ _ _ Y1.out (Aside0.mk (NL.out _ Y1.out (by omega))).out (Aside0.mk (NR.out _ _ Y1.out (Aside0.mk (NL.out _ Y1.out (by omega))).out (by omega))).out⟩
                      · have fC1 : decide ((mid : Int) < (e : Int)) = false := decide_eq_false (by omega)
                        have fC3 : ¬ ((mid : Int) < (e : Int)) := by omega
                        go_wp2_with (first | (go_at_fn 158; refine (HA158.out gA1 gA2 _ hA.out).mono ?_; rintro e_ w1 ⟨rfl, d1, hS1, hW1⟩; have X1 := Aside0.mk hS1; have Y1 := Aside0.mk hW1; clear hS1 hW1))
                        all_goals go_end0
                        all_goals exact ⟨rfl, _, X1.out, FIN.out _ _ _ Y1.out (Aside0.mk (NL.out _ Y1.out (by omega))).out (Aside0.mk (NR.out _ _ Y1.out (Aside0.mk (NL.out _ Y1.out (by omega))).out (by omega))).out⟩
                  · have fB1 : decide ((a : Int) < (s : Int)) = false := decide_eq_false (by omega)
                    have fB3 : ¬ ((a : Int) < (s : Int)) := by omega
                    by_cases gC : mid < e ∧ e < b
                    · obtain ⟨gC1, gC2⟩ := gC
                      have fC1 : decide ((mid : Int) < (e : Int)) = true := decide_eq_true (by omega)
                      have fC2 : decide ((e : Int) < (b : Int)) = true := decide_eq_true (by omega)
                      go_wp2_with (first | (go_at_fn 158; refine (HA158.out gA1 gA2 _ hA.out).mono ?_; rintro e_ w1 ⟨rfl, d1, hS1, hW1⟩; have X1 := Aside0.mk hS1; have Y1 := Aside0.mk hW1; clear hS1 hW1) | (go_at_fn 134; refine (HRC.out gC1 gC2 _ _ _ X1.out Y1.out (Aside0.mk (NL.out _ Y1.out (by omega))).out).mono ?_; rintro e_ w3 ⟨rfl, d3, hS3, hW3⟩; have X3 := Aside0.mk hS3; have Y3 := Aside0.mk hW3; clear hS3 hW3))
                      all_goals go_end0
                      all_goals exact ⟨rfl, _, X3.out, FIN.out _ _ _ Y1.out (Aside0.mk (NL.out _ Y1.out (by omega))).out Y3.out⟩
                    · have fC : (decide ((mid : Int) < (e : Int)) && decide ((e : Int) < (b : Int))) = false := by
                        rw [Bool.and_eq_false_iff, decide_eq_false_iff_not, decide_eq_false_iff_not]; omega
                      by_cases nnC : mid < e
                      · have fC1 : decide ((mid : Int) < (e : Int)) = true := decide_eq_true (by omega)
                        have fC2 : decide ((e : Int) < (b : Int)) = false := decide_eq_false (by omega)
                        have fC3 : ¬ ((e : Int) < (b : Int)) := by omega
                        go_wp2_with (first | (go_at_fn 158; refine (HA158.out gA1 gA2 _ hA.out).mono ?_; rintro e_ w1 ⟨rfl, d1, hS1, hW1⟩; have X1 := Aside0.mk hS1; have Y1 := Aside0.mk hW1; clear hS1 hW1))
                        all_goals go_end0
                        all_goals exact ⟨rfl, _, X1.out, FIN.out _ _ _ Y1.out (Aside0.mk (NL.out _ Y1.out (by omega))).out (Aside0.mk (NR.out _ _ Y1.out (Aside0.mk (NL.out _ Y1.out (by omega))).out (by omega))).out⟩
                      · have fC1 : decide ((mid : Int) < (e : Int)) = false := decide_eq_false (by omega)
                        have fC3 : ¬ ((mid : Int) < (e : Int)) := by omega
                        go_wp2_with (first | (go_at_fn 158; refine (HA158.out gA1 gA2 _ hA.out).mono ?_; rintro e_ w1 ⟨rfl, d1, hS1, hW1⟩; have X1 := Aside0.mk hS1; have Y1 := Aside0.mk hW1; clear hS1 hW1))
                        all_goals go_end0
                        all_goals exact ⟨rfl, _, X1.out, FIN.out _ _ _ Y1.out (Aside0.mk (NL.out _ Y1.out (by omega))).out (Aside0.mk (NR.out _ _ Y1.out (Aside0.mk (NL.out _ Y1.out (by omega))).out (by omega))).out⟩
              · have fA : (decide ((s : Int) < (m : Int)) && decide ((m : Int) < (e : Int))) = false := by
                  rw [Bool.and_eq_false_iff, decide_eq_false_iff_not, decide_eq_false_iff_not]; omega
                by_cases nnA : s < m
                · have fA1 : decide ((s : Int) < (m : Int)) = true := decide_eq_true (by omega)
                  have fA2 : decide ((m : Int) < (e : Int)) = false := decide_eq_false (by omega)
                  have fA3 : ¬ ((m : Int) < (e : Int)) := by omega
                  by_cases gB : a < s ∧ s < mid
                  · obtain ⟨gB1, gB2⟩ := gB
                    have fB1 : decide ((a : Int) < (s : Int)) = true := decide_eq_true (by omega)
                    have fB2 : decide ((s : Int) < (mid : Int)) = true := decide_eq_true (by omega)
                    by_cases gC : mid < e ∧ e < b
                    · obtain ⟨gC1, gC2⟩ := gC
                      have fC1 : decide ((mid : Int) < (e : Int)) = true := decide_eq_true (by omega)
                      have fC2 : decide ((e : Int) < (b : Int)) = true := decide_eq_true (by omega)
                      go_wp2_with (first | (go_at_fn 134; refine (HRC.out gC1 gC2 _ _ _ X2.out (Aside0.mk (NROT.out (by omega))).out Y2.out).mono ?_; rintro e_ w3 ⟨rfl, d3, hS3, hW3⟩; have X3 := Aside0.mk hS3; have Y3 := Aside0.mk hW3; clear hS3 hW3) | (go_at_fn 134; refine (HLC.out gB1 gB2 _ _ hA.out (Aside0.mk (NROT.out (by omega))).out).mono ?_; rintro e_ w2 ⟨rfl, d2, hS2, hW2⟩; have X2 := Aside0.mk hS2; have Y2 := Aside0.mk hW2; clear hS2 hW2))
                      all_goals go_end0
                      all_goals exact ⟨rfl, _, X3.out, FIN.out _ _ _ (Aside0.mk (NROT.out (by omega))).out Y2.out Y3.out⟩
                    · have fC : (decide ((mid : Int) < (e : Int)) && decide ((e : Int) < (b : Int))) = false := by
                        rw [Bool.and_eq_false_iff, decide_eq_false_iff_not, decide_eq_false_iff_not]; omega
                      by_cases nnC : mid < e
                      · have fC1 : decide ((mid : Int) < (e : Int)) = true := decide_eq_true (by omega)
                        have fC2 : decide ((e : Int) < (b : Int)) = false := decide_eq_false (by omega)
                        have fC3 : ¬ ((e : Int) < (b : Int)) := by omega
                        go_wp2_with (first | (go_at_fn 134; refine (HLC.out gB1 gB2 _ _ hA.out (Aside0.mk (NROT.out (by omega))).out).mono ?_; rintro e_ w2 ⟨rfl, d2, hS2, hW2⟩; have X2 := Aside0.mk hS2; have Y2 := Aside0.mk hW2; clear hS2 hW2))
                        all_goals go_end0
                        all_goals exact ⟨rfl, _, X2.out, FIN.out _ _ _ (Aside0.mk (NROT.out (by omega))).out Y2.out (Aside0.mk (NR.out _ _ (Aside0.mk (NROT.out (by omega))).out Y2.out (by omega))).out⟩
                      · have fC1 : decide ((mid : Int) < (e : Int)) = false := decide_eq_false (by omega)
                        have fC3 : ¬ ((mid : Int) < (e : Int)) := by omega
                        go_wp2_with (first | (go_at_fn 134; refine (HLC.out gB1 gB2 _ _ hA.out (Aside0.mk (NROT.out (by omega))).out).mono ?_; rintro e_ w2 ⟨rfl, d2, hS2, hW2⟩; have X2 := Aside0.mk hS2; have Y2 := Aside0.mk hW2; clear hS2 hW2))
                        all_goals go_end0
                        all_goals exact ⟨rfl, _, X2.out, FIN.out _ _ _ (Aside0.mk (NROT.out (by omega))).out Y2.out (Aside0.mk (NR.out _ _ (Aside0.mk (NROT.out (by omega))).out Y2.out (by omega))).out⟩
                  · have fB : (decide ((a : Int) < (s : Int)) && decide ((s : Int) < (mid : Int))) = false := by
                      rw [Bool.and_eq_false_iff, decide_eq_false_iff_not, decide_eq_false_iff_not]; omega
                    by_cases nnB : a < s
                    · have fB1 : decide ((a : Int) < (s : Int)) = true := decide_eq_true (by omega)
                      have fB2 : decide ((s : Int) < (mid : Int)) = false := decide_eq_false (by omega)
                      have fB3 : ¬ ((s : Int) < (mid : Int)) := by omega
                      by_cases gC : mid < e ∧ e < b
                      · obtain ⟨gC1, gC2⟩ := gC
                        have fC1 : decide ((mid : Int) < (e : Int)) = true := decide_eq_true (by omega)
                        have fC2 : decide ((e : Int) < (b : Int)) = true := decide_eq_true (by omega)
                        go_wp2_with (first | (go_at_fn 134; refine (HRC.out gC1 gC2 _ _ _ hA.out (Aside0.mk (NROT.out (by omega))).out (Aside0.mk (NL.out _ (Aside0.mk (NROT.out (by omega))).out (by omega))).out).mono ?_; rintro e_ w3 ⟨rfl, d3, hS3, hW3⟩; have X3 := Aside0.mk hS3; have Y3 := Aside0.mk hW3; clear hS3 hW3))
                        all_goals go_end0
                        all_goals exact ⟨rfl, _, X3.out, FIN.out _ _ _ (Aside0.mk (NROT.out (by omega))).out (Aside0.mk (NL.out _ (Aside0.mk (NROT.out (by omega))).out (by omega))).out Y3.out⟩
                      · have fC : (decide ((mid : Int) < (e : Int)) && decide ((e : Int) < (b : Int))) = false := by
                          rw [Bool.and_eq_false_iff, decide_eq_false_iff_not, decide_eq_false_iff_not]; omega
                        by_cases nnC : mid < e
                        · have fC1 : decide ((mid : Int) < (e : Int)) = true := decide_eq_true (by omega)
                          have fC2 : decide ((e : Int) < (b : Int)) = false := decide_eq_false (by omega)
                          have fC3 : ¬ ((e : Int) < (b : Int)) := by omega
                          go_wp2_with fail
                          all_goals go_end0
                          all_goals exact ⟨rfl, _, hA.out, FIN.out _ _ _ (Aside0.mk (NROT.out (by omega))).out (Aside0.mk (NL.out _ (Aside0.mk (NROT.out (by omega))).out (by omega))).out (Aside0.mk (NR.out _ _ (Aside0.mk (NROT.out (by omega))).out (Aside0.mk (NL.out _ (Aside0.mk (NROT.out (by omega))).out (by omega))).out (by omega))).out⟩
                        · have fC1 : decide ((mid : Int) < (e : Int)) = false := decide_eq_false (by omega)
                          have fC3 : ¬ ((mid : Int) < (e : Int)) := by omega
                          go_wp2_with fail
                          all_goals go_end0
                          all_goals exact ⟨rfl, _, hA.out, FIN.out _ _ _ (Aside0.mk (NROT.out (by omega))).out (Aside0.mk (NL.out _ (Aside0.mk (NROT.out (by omega))).out (by omega))).out (Aside0.mk (NR.out _ _ (Aside0.mk (NROT.out (by omega))).out (Aside0.mk (NL.out _ (Aside0.mk (NROT.out (by omega))).out (by omega))).out (by omega))).out⟩
                    · have fB1 : decide ((a : Int) < (s : Int)) = false := decide_eq_false (by omega)
                      have fB3 : ¬ ((a : Int) < (s : Int)) := by omega
                      by_cases gC : mid < e ∧ e < b
                      · obtain ⟨gC1, gC2⟩ := gC
                        have fC1 : decide ((mid : Int) < (e : Int)) = true := decide_eq_true (by omega)
                        have fC2 : decide ((e : Int) < (b : Int)) = true := decide_eq_true (by omega)
                        go_wp2_with (first | (go_at_fn 134; refine (HRC.out gC1 gC2 _ _ _ hA.out (Aside0.mk (NROT.out (by omega))).out (Aside0.mk (NL.out _ (Aside0.mk (NROT.out (by omega))).out (by omega))).out).mono ?_; rintro e_ w3 ⟨rfl, d3, hS3, hW3⟩; have X3 := Aside0.mk hS3; have Y3 := Aside0.mk hW3; clear hS3 hW3))
                        all_goals go_end0
                        all_goals exact ⟨rfl, _, X3.out, FIN.out _ _ _ (Aside0.mk (NROT.out (by omega))).out (Aside0.mk (NL.out _ (Aside0.mk (NROT.out (by omega))).out (by omega))).out Y3.out⟩
                      · have fC : (decide ((mid : Int) < (e : Int)) && decide ((e : Int) < (b : Int))) = false := by
                          rw [Bool.and_eq_false_iff, decide_eq_false_iff_not, decide_eq_false_iff_not]; omega
                        by_cases nnC : mid < e
                        · have fC1 : decide ((mid : Int) < (e : Int)) = true := decide_eq_true (by omega)
                          have fC2 : decide ((e : Int) < (b : Int)) = false := decide_eq_false (by omega)
                          have fC3 : ¬ ((e : Int) < (b : Int)) := by omega
                          go_wp2_with fail
                          all_goals go_end0
                          all_goals exact ⟨rfl, _, hA.out, FIN.out _ _ _ (Aside0.mk (NROT.out (by omega))).out (Aside0.mk (NL.out _ (Aside0.mk (NROT.out (by omega))).out (by omega))).out (Aside0.mk (NR.out _ _ (Aside0.mk (NROT.out (by omega))).out (Aside0.mk (NL.out _ (Aside0.mk (NROT.out (by omega))).out (by omega))).out (by omega))).out⟩
                        · have fC1 : decide ((mid : Int) < (e : Int)) = false := decide_eq_false (by omega)
                          have fC3 : ¬ ((mid : Int) < (e : Int)) := by omega
                          go_wp2_with fail
                          all_goals go_end0
                          all_goals exact ⟨rfl, _, hA.out, FIN.out _ _ _ (Aside0.mk (NROT.out (by omega))).out (Aside0.mk (NL.out _ (Aside0.mk (NROT.out (by omega))).out (by omega))).out (Aside0.mk (NR.out _ _ (Aside0.mk (NROT.out (by omega))).out (Aside0.mk (NL.out _ (Aside0.mk (NROT.out (by omega))).out (by omega))).out (by omega))).out⟩
                · have fA1 : decide ((s : Int) < (m : Int)) = false := decide_eq_false (by omega)
                  have fA3 : ¬ ((s : Int) < (m : Int)) := by omega
                  by_cases gB : a < s ∧ s < mid
                  · obtain ⟨gB1, gB2⟩ := gB
                    have fB1 : decide ((a : Int) < (s : Int)) = true := decide_eq_true (by omega)
                    have fB2 : decide ((s : Int) < (mid : Int)) = true := decide_eq_true (by omega)
                    by_cases gC : mid < e ∧ e < b
                    · obtain ⟨gC1, gC2⟩ := gC
                      have fC1 : decide ((mid : Int) < (e : Int)) = true := decide_eq_true (by omega)
                      have fC2 : decide ((e : Int) < (b : Int)) = true := decide_eq_true (by omega)
                      go_wp2_with (first | (go_at_fn 134; refine (HRC.out gC1 gC2 _ _ _ X2.out (Aside0.mk (NROT.out (by omega))).out Y2.out).mono ?_; rintro e_ w3 ⟨rfl, d3, hS3, hW3⟩; have X3 := Aside0.mk hS3; have Y3 := Aside0.mk hW3; clear hS3 hW3) | (go_at_fn 134; refine (HLC.out gB1 gB2 _ _ hA.out (Aside0.mk (NROT.out (by omega))).out).mono ?_; rintro e_ w2 ⟨rfl, d2, hS2, hW2⟩; have X2 := Aside0.mk hS2; have Y2 := Aside0.mk hW2; clear hS2 hW2))
                      all_goals go_end0
                      all_goals exact ⟨rfl, _, X3.out, FIN.out _ _ _ (Aside0.mk (NROT.out (by omega))).out Y2.out Y3.out⟩
                    · have fC : (decide ((mid : Int) < (e : Int)) && decide ((e : Int) < (b : Int))) = false := by
                        rw [Bool.and_eq_false_iff, decide_eq_false_iff_not, decide_eq_false_iff_not]; omega
                      by_cases nnC : mid < e
                      · have fC1 : decide ((mid : Int) < (e : Int)) = true := decide_eq_true (by omega)
                        have fC2 : decide ((e : Int) < (b : Int)) = false := decide_eq_false (by omega)
                        have fC3 : ¬ ((e : Int) < (b : Int)) := by omega
                        go_wp2_with (first | (go_at_fn 134; refine (HLC.out gB1 gB2 _ _ hA.out (Aside0.mk (NROT.out (by omega))).out).mono ?_; rintro e_ w2 ⟨rfl, d2, hS2, hW2⟩; have X2 := Aside0.mk hS2; have Y2 := Aside0.mk hW2; clear hS2 hW2))
                        all_goals go_end0
                        all_goals exact ⟨rfl, _, X2.out, FIN.out _ _ _ (Aside0.mk (NROT.out (by omega))).out Y2.out (Aside0.mk (NR.out _ _ (Aside0.mk (NROT.out (by omega))).out Y2.out (by omega))).out⟩
                      · have fC1 : decide ((mid : Int) < (e : Int)) = false := decide_eq_false (by omega)
                        have fC3 : ¬ ((mid : Int) < (e : Int)) := by omega
                        go_wp2_with (first | (go_at_fn 134; refine (HLC.out gB1 gB2 _ _ hA.out (Aside0.mk (NROT.out (by omega))).out).mono ?_; rintro e_ w2 ⟨rfl, d2, hS2, hW2⟩; have X2 := Aside0.mk hS2; have Y2 := Aside0.mk hW2; clear hS2 hW2))
                        all_goals go_end0
                        all_goals exact ⟨rfl, _, X2.out, FIN.out _ _ _ (Aside0.mk (NROT.out (by omega))).out Y2.out (Aside0.mk (NR.out _ _ (Aside0.mk (NROT.out (by omega))).out Y2.out (by omega))).out⟩
                  · have fB : (decide ((a : Int) < (s : Int)) && decide ((s : Int) < (mid : Int))) = false := by
                      rw [Bool.and_eq_false_iff, decide_eq_false_iff_not, decide_eq_false_iff_not]; omega
                    by_cases nnB : a < s
                    · have fB1 : decide ((a : Int) < (s : Int)) = true := decide_eq_true (by omega)
                      have fB2 : decide ((s : Int) < (mid : Int)) = false := decide_eq_false (by omega)
                      have fB3 : ¬ ((s : Int) < (mid : Int)) := by omega
                      by_cases gC : mid < e ∧ e < b
                      · obtain ⟨gC1, gC2⟩ := gC
                        have fC1 : decide ((mid : Int) < (e : Int)) = true := decide_eq_true (by omega)
                        have fC2 : decide ((e : Int) < (b : Int)) = true := decide_eq_true (by omega)
                        go_wp2_with (first | (go_at_fn 134; refine (HRC.out gC1 gC2 _ _ _ hA.out (Aside0.mk (NROT.out (by omega))).out (Aside0.mk (NL.out _ (Aside0.mk (NROT.out (by omega))).out (by omega))).out).mono ?_; rintro e_ w3 ⟨rfl, d3, hS3, hW3⟩; have X3 := Aside0.mk hS3; have Y3 := Aside0.mk hW3; clear hS3 hW3))
                        all_goals go_end0
                        all_goals exact ⟨rfl, _, X3.out, FIN.out _ _ _ (Aside0.mk (NROT.out (by omega))).out (Aside0.mk (NL.out _ (Aside0.mk (NROT.out (by omega))).out (by omega))).out Y3.out⟩
                      · have fC : (decide ((mid : Int) < (e : Int)) && decide ((e : Int) < (b : Int))) = false := by
                          rw [Bool.and_eq_false_iff, decide_eq_false_iff_not, decide_eq_false_iff_not]; omega
                        by_cases nnC : mid < e
                        · have fC1 : decide ((mid : Int) < (e : Int)) = true := decide_eq_true (by omega)
                          have fC2 : decide ((e : Int) < (b : Int)) = false := decide_eq_false (by omega)
                          have fC3 : ¬ ((e : Int) < (b : Int)) := by omega
                          go_wp2_with fail
                          all_goals go_end0
                          all_goals exact ⟨rfl, _, hA.out, FIN.out _ _ _ (Aside0.mk (NROT.out (by omega))).out (Aside0.mk (NL.out _ (Aside0.mk (NROT.out (by omega))).out (by omega))).out (Aside0.mk (NR.out _ _ (Aside0.mk (NROT.out (by omega))).out (Aside0.mk (NL.out _ (Aside0.mk (NROT.out (by omega))).out (by omega))).out (by omega))).out⟩
                        · have fC1 : decide ((mid : Int) < (e : Int)) = false := decide_eq_false (by omega)
                          have fC3 : ¬ ((mid : Int) < (e : Int)) := by omega
                          go_wp2_with fail
                          all_goals go_end0
                          all_goals exact ⟨rfl, _, hA.out, FIN.out _ _ _ (Aside0.mk (NROT.out (by omega))).out (Aside0.mk (NL.out _ (Aside0.mk (NROT.out (by omega))).out (by omega))).out (Aside0.mk (NR.out _ _ (Aside0.mk (NROT.out (by omega))).out (Aside0.mk (NL.out _ (Aside0.mk (NROT.out (by omega))).out (by omega))).out (by omega))).out⟩
                    · have fB1 : decide ((a : Int) < (s : Int)) = false := decide_eq_false (by omega)
                      have fB3 : ¬ ((a : Int) < (s : Int)) := by omega
                      by_cases gC : mid < e ∧ e < b
                      · obtain ⟨gC1, gC2⟩ := gC
                        have fC1 : decide ((mid : Int) < (e : Int)) = true := decide_eq_true (by omega)
                        have fC2 : decide ((e : Int) < (b : Int)) = true := decide_eq_true (by omega)
                        go_wp2_with (first | (go_at_fn 134; refine (HRC.out gC1 gC2 _ _ _ hA.out (Aside0.mk (NROT.out (by omega))).out (Aside0.mk (NL.out _ (Aside0.mk (NROT.out (by omega))).out (by omega))).out).mono ?_; rintro e_ w3 ⟨rfl, d3, hS3, hW3⟩; have X3 := Aside0.mk hS3; have Y3 := Aside0.mk hW3; clear hS3 hW3))
                        all_goals go_end0
                        all_goals exact ⟨rfl, _, X3.out, FIN.out _ _ _ (Aside0.mk (NROT.out (by omega))).out (Aside0.mk (NL.out _ (Aside0.mk (NROT.out (by omega))).out (by omega))).out Y3.out⟩
                      · have fC : (decide ((mid : Int) < (e : Int)) && decide ((e : Int) < (b : Int))) = false := by
                          rw [Bool.and_eq_false_iff, decide_eq_false_iff_not, decide_eq_false_iff_not]; omega
                        by_cases nnC : mid < e
                        · have fC1 : decide ((mid : Int) < (e : Int)) = true := decide_eq_true (by omega)
                          have fC2 : decide ((e : Int) < (b : Int)) = false := decide_eq_false (by omega)
                          have fC3 : ¬ ((e : Int) < (b : Int)) := by omega
                          go_wp2_with fail
                          all_goals go_end0
                          all_goals exact ⟨rfl, _, hA.out, FIN.out _ _ _ (Aside0.mk (NROT.out (by omega))).out (Aside0.mk (NL.out _ (Aside0.mk (NROT.out (by omega))).out (by omega))).out (Aside0.mk (NR.out _ _ (Aside0.mk (NROT.out (by omega))).out (Aside0.mk (NL.out _ (Aside0.mk (NROT.out (by omega))).out (by omega))).out (by omega))).out⟩
                        · have fC1 : decide ((mid : Int) < (e : Int)) = false := decide_eq_false (by omega)
                          have fC3 : ¬ ((mid : Int) < (e : Int)) := by omega
                          go_wp2_with fail
                          all_goals go_end0
                          all_goals exact ⟨rfl, _, hA.out, FIN.out _ _ _ (Aside0.mk (NROT.out (by omega))).out (Aside0.mk (NL.out _ (Aside0.mk (NROT.out (by omega))).out (by omega))).out (Aside0.mk (NR.out _ _ (Aside0.mk (NROT.out (by omega))).out (Aside0.mk (NL.out _ (Aside0.mk (NROT.out (by omega))).out (by omega))).out (by omega))).out⟩
        · have t3 : ¬ ((mid : Int) < (m : Int)) := by omega
          have t3d : decide ((m : Int) > (mid : Int)) = false := decide_eq_false (by omega)
          clear k1 k2
          go_enter FG, Tryz.ntmps134
          go_wp2_with fail
          go_loopw [20, 21] (fun v20 v21 wr => ∃ s r : Nat, v20 = .int .i64 s ∧ v21 = .int .i64 r ∧ a ≤ s ∧ s ≤ r ∧ r ≤ m ∧ Aside0 (a < s → ltOf cf d[pp + 1 - s]! d[s - 1]! = false) ∧ Aside0 (r < m → ltOf cf d[pp - r]! d[r]! = true) ∧ Aside0 (SWK enc k w0 g o d wr)) (fun v20 v21 _ => (intOf v21).toNat - (intOf v20).toNat)
          case atStart => exact ⟨a, m, rfl, rfl, by omega, by omega, by omega, ⟨fun h => by omega⟩, ⟨fun h => by omega⟩, S0⟩
          case round =>
            clear S0
            obtain ⟨s, r, rfl, rfl, hs1, hsr, hr1, hU, hV, hA⟩ := hrel
            by_cases hlt : s < r
            · obtain ⟨c, he⟩ : ∃ c : Nat, ((s : Int) + (r : Int)) / 2 = (c : Int) := ⟨(s + r) / 2, by omega⟩
              have hh1 : s ≤ c := by omega
              have hh2 : c < r := by omega
              obtain ⟨pc, hpc⟩ : ∃ pc : Nat, (pp : Int) - (c : Int) = (pc : Int) := ⟨pp - c, by have := HPN.out; omega⟩
              have hpb : pc < b := by have := HPN.out; have := HM2.out; omega
              have hwpc : IntKind.i64.wrap (pc : Int) = (pc : Int) := by rw [IntKind.wrap_i64]; omega
              have HPC : Aside0 (pc = pp - c ∧ c ≤ pp) := ⟨by have := HPN.out; omega⟩
              have hx5 : pc < d.size := by omega
              have hy5 : c < d.size := by omega
              have hx25 : pc < d0.size := by omega
              have hy25 : c < d0.size := by omega
              have la5 := hA.out.ld RR.out (by omega) P pc hx5
              have lb5 := hA.out.ld RR.out (by omega) P c hy5
              obtain ⟨x5, ex5⟩ : ∃ x, x = d[pc]! := ⟨_, rfl⟩
              obtain ⟨y5, ey5⟩ : ∃ x, x = d[c]! := ⟨_, rfl⟩
              rw [← ex5] at la5
              rw [← ey5] at lb5
              have hc5 := hA.out.cmp HC.out (by omega) x5 y5
              have EX5 := Aside0.mk ex5
              have EY5 := Aside0.mk ey5
              clear ex5 ey5
              by_cases hv5 : cf x5 y5 < 0
              · have HL5 : Aside0 (ltOf cf d[pc]! d[c]! = true) := ⟨by rw [← EX5.out, ← EY5.out]; exact decide_eq_true hv5⟩
                have hd5 : decide (cf x5 y5 < 0) = true := decide_eq_true hv5
                go_wp2_with fail
                go_quiet_grown (first | (go_at_fn gf; refine Calls.grown_of (hc5 _ _)))
                have X2 : Aside0 (SWK enc k w0 g o d (grow (wr.drewN nq) osq)) := ⟨hA.out.grown nq osq⟩
                clear la5 lb5 hc5
                generalize grow (wr.drewN nq) osq = w2 at X2 ⊢
                go_wp2_with fail
                go_roundw
                case rel => exact ⟨s, c, rfl, rfl, hs1, hh1, by omega, hU, ⟨fun _ => by rw [← HPC.out.1]; exact HL5.out⟩, X2⟩
                case measure => simp [intOf]; omega
              · have HL5 : Aside0 (ltOf cf d[pc]! d[c]! = false) := ⟨by rw [← EX5.out, ← EY5.out]; exact decide_eq_false hv5⟩
                have hd5 : decide (cf x5 y5 < 0) = false := decide_eq_false hv5
                go_wp2_with fail
                go_quiet_grown (first | (go_at_fn gf; refine Calls.grown_of (hc5 _ _)))
                have X2 : Aside0 (SWK enc k w0 g o d (grow (wr.drewN nq) osq)) := ⟨hA.out.grown nq osq⟩
                clear la5 lb5 hc5
                generalize grow (wr.drewN nq) osq = w2 at X2 ⊢
                go_wp2_with fail
                go_roundw
                case rel => exact ⟨c + 1, r, by push_cast; rfl, rfl, by omega, by omega, hr1, ⟨fun _ => by rw [show pp + 1 - (c + 1) = pc by have := HPC.out; omega, show c + 1 - 1 = c by omega]; exact HL5.out⟩, hV, X2⟩
                case measure => simp [intOf]; omega
            · obtain rfl : s = r := by omega
              have YS : Aside0 (a ≤ s ∧ s ≤ m ∧ s ≤ mid ∧ mid + m ≤ s + b ∧ (∀ e, s + e = mid + m → a < s → e < b → ltOf cf d[e]! d[s - 1]! = false) ∧ (∀ e, s + e = mid + m → s < m → m < e → ltOf cf d[e - 1]! d[s]! = true)) := ⟨by
                have w1 := HPN.out
                have w2 := HM2.out
                refine ⟨by omega, by omega, by omega, by omega, fun e y1 y2 y3 => ?_, fun e y1 y2 y3 => ?_⟩
                · have := hU.out (by omega)
                  rwa [show pp + 1 - s = e by omega] at this
                · have := hV.out (by omega)
                  rwa [show pp - s = e - 1 by omega] at this⟩
              obtain ⟨e, he⟩ : ∃ e : Nat, (mid : Int) + (m : Int) - (s : Int) = (e : Int) := ⟨mid + m - s, by have := HPN.out; omega⟩
              have hse : s + e = mid + m := by omega
              have PA := Aside0.mk (HF.out s e hse YS.out.1 YS.out.2.1 YS.out.2.2.1 (by have := YS.out.2.2.2.1; omega) (fun q1 q2 => YS.out.2.2.2.2.1 e hse q1 q2) (fun q1 q2 => YS.out.2.2.2.2.2 e hse q1 q2))
              obtain ⟨z1, z2, z3, z4, z5, z6, z7, z8, _, _⟩ := PA.out
              have NROT : Aside0 (¬ (s < m ∧ m < e) → IsRot d d s m e) := ⟨fun hn => by
                by_cases c : s = m
                · subst c; exact IsRot.none_ d s e
                · obtain rfl : m = e := by omega
                  exact IsRot.one d s m⟩
              have NL : Aside0 (∀ d1 : Array α, IsRot d d1 s m e → ¬ (a < s ∧ s < mid) → Mv (ltOf cf) a mid d1 d1) := ⟨fun d1 hr hn => by
                obtain ⟨q1, q2, _, _, _⟩ := PA.out.halves SW.out A1.out A2.out hr
                by_cases c : a = s
                · rw [← c] at q2; exact Mv.of_sorted q2
                · obtain rfl : s = mid := by omega
                  exact Mv.of_sorted q1⟩
              have RS : Aside0 (∀ d1 d2 : Array α, IsRot d d1 s m e → Mv (ltOf cf) a mid d1 d2 → SortedIn (ltOf cf) mid e d2 ∧ SortedIn (ltOf cf) e b d2) := ⟨fun d1 d2 hr hL => by
                obtain ⟨_, _, q1, q2, _⟩ := PA.out.halves SW.out A1.out A2.out hr
                exact ⟨SortedIn.congr q1 fun i y1 y2 => hL.out i (.inr y1), SortedIn.congr q2 fun i y1 y2 => hL.out i (.inr (by omega))⟩⟩
              have NR : Aside0 (∀ d1 d2 : Array α, IsRot d d1 s m e → Mv (ltOf cf) a mid d1 d2 → ¬ (mid < e ∧ e < b) → Mv (ltOf cf) mid b d2 d2) := ⟨fun d1 d2 hr hL hn => by
                obtain ⟨q1, q2⟩ := RS.out d1 d2 hr hL
                by_cases c : mid = e
                · rw [← c] at q2; exact Mv.of_sorted q2
                · obtain rfl : e = b := by omega
                  exact Mv.of_sorted q1⟩
              have HA158 : Aside0 (s < m → m < e → ∀ wr, SWK enc k w0 g o d wr → Calls P 158 #[.slice (some ⟨g, o, none⟩) d0.size c0, .int .i64 s, .int .i64 m, .int .i64 e, .func (.func gf) #[] cb] wr fun e_ w' => e_ = .returned (.tuple #[]) ∧ ∃ d', SWK enc k w0 g o d' w' ∧ IsRot d d' s m e) := ⟨fun y1 y2 wr hS => H158.out d wr s m e hds hS y1 y2 (by omega)⟩
              have HLC : Aside0 (a < s → s < mid → ∀ d1 wr, SWK enc k w0 g o d1 wr → IsRot d d1 s m e → Calls P 134 #[.slice (some ⟨g, o, none⟩) d0.size c0, .int .i64 a, .int .i64 s, .int .i64 mid, .func (.func gf) #[] cb] wr fun e_ w' => e_ = .returned (.tuple #[]) ∧ ∃ d', SWK enc k w0 g o d' w' ∧ Mv (ltOf cf) a mid d1 d') := ⟨fun y1 y2 d1 wr hS hr => by
                obtain ⟨q1, q2, _, _, _⟩ := PA.out.halves SW.out A1.out A2.out hr
                exact IH.out a s mid (by omega) y1 y2 (by omega) d1 wr (by rw [hr.1]; exact hds) hS q1 q2⟩
              have HRC : Aside0 (mid < e → e < b → ∀ d1 d2 wr, SWK enc k w0 g o d2 wr → IsRot d d1 s m e → Mv (ltOf cf) a mid d1 d2 → Calls P 134 #[.slice (some ⟨g, o, none⟩) d0.size c0, .int .i64 mid, .int .i64 e, .int .i64 b, .func (.func gf) #[] cb] wr fun e_ w' => e_ = .returned (.tuple #[]) ∧ ∃ d', SWK enc k w0 g o d' w' ∧ Mv (ltOf cf) mid b d2 d') := ⟨fun y1 y2 d1 d2 wr hS hr hL => by
                obtain ⟨q1, q2⟩ := RS.out d1 d2 hr hL
                exact IH.out mid e b (by omega) y1 y2 hbx d2 wr (by rw [hL.size, hr.1]; exact hds) hS q1 q2⟩
              have FIN : Aside0 (∀ d1 d2 d3 : Array α, IsRot d d1 s m e → Mv (ltOf cf) a mid d1 d2 → Mv (ltOf cf) mid b d2 d3 → Mv (ltOf cf) a b d d3) := ⟨fun d1 d2 d3 hr hL hR => PA.out.merged SW.out (by omega) A1.out A2.out hr hL hR⟩
              by_cases gA : s < m ∧ m < e
              · obtain ⟨gA1, gA2⟩ := gA
                have fA1 : decide ((s : Int) < (m : Int)) = true := decide_eq_true (by omega)
                have fA2 : decide ((m : Int) < (e : Int)) = true := decide_eq_true (by omega)
                by_cases gB : a < s ∧ s < mid
                · obtain ⟨gB1, gB2⟩ := gB
                  have fB1 : decide ((a : Int) < (s : Int)) = true := decide_eq_true (by omega)
                  have fB2 : decide ((s : Int) < (mid : Int)) = true := decide_eq_true (by omega)
                  by_cases gC : mid < e ∧ e < b
                  · obtain ⟨gC1, gC2⟩ := gC
                    have fC1 : decide ((mid : Int) < (e : Int)) = true := decide_eq_true (by omega)
                    have fC2 : decide ((e : Int) < (b : Int)) = true := decide_eq_true (by omega)
                    go_wp2_with (first | (go_at_fn 158; refine (HA158.out gA1 gA2 _ hA.out).mono ?_; rintro e_ w1 ⟨rfl, d1, hS1, hW1⟩; have X1 := Aside0.mk hS1; have Y1 := Aside0.mk hW1; clear hS1 hW1) | (go_at_fn 134; refine (HRC.out gC1 gC2 _ _ _ X2.out Y1.out Y2.out).mono ?_; rintro e_ w3 ⟨rfl, d3, hS3, hW3⟩; have X3 := Aside0.mk hS3; have Y3 := Aside0.mk hW3; clear hS3 hW3) | (go_at_fn 134; refine (HLC.out gB1 gB2 _ _ X1.out Y1.out).mono ?_; rintro e_ w2 ⟨rfl, d2, hS2, hW2⟩; have X2 := Aside0.mk hS2; have Y2 := Aside0.mk hW2; clear hS2 hW2))
                    all_goals go_end0
                    all_goals exact ⟨rfl, _, X3.out, FIN.out _ _ _ Y1.out Y2.out Y3.out⟩
                  · have fC : (decide ((mid : Int) < (e : Int)) && decide ((e : Int) < (b : Int))) = false := by
                      rw [Bool.and_eq_false_iff, decide_eq_false_iff_not, decide_eq_false_iff_not]; omega
                    by_cases nnC : mid < e
                    · have fC1 : decide ((mid : Int) < (e : Int)) = true := decide_eq_true (by omega)
                      have fC2 : decide ((e : Int) < (b : Int)) = false := decide_eq_false (by omega)
                      have fC3 : ¬ ((e : Int) < (b : Int)) := by omega
                      go_wp2_with (first | (go_at_fn 158; refine (HA158.out gA1 gA2 _ hA.out).mono ?_; rintro e_ w1 ⟨rfl, d1, hS1, hW1⟩; have X1 := Aside0.mk hS1; have Y1 := Aside0.mk hW1; clear hS1 hW1) | (go_at_fn 134; refine (HLC.out gB1 gB2 _ _ X1.out Y1.out).mono ?_; rintro e_ w2 ⟨rfl, d2, hS2, hW2⟩; have X2 := Aside0.mk hS2; have Y2 := Aside0.mk hW2; clear hS2 hW2))
                      all_goals go_end0
                      all_goals exact ⟨rfl, _, X2.out, FIN.out _ _ _ Y1.out Y2.out (Aside0.mk (NR.out _ _ Y1.out Y2.out (by omega))).out⟩
                    · have fC1 : decide ((mid : Int) < (e : Int)) = false := decide_eq_false (by omega)
                      have fC3 : ¬ ((mid : Int) < (e : Int)) := by omega
                      go_wp2_with (first | (go_at_fn 158; refine (HA158.out gA1 gA2 _ hA.out).mono ?_; rintro e_ w1 ⟨rfl, d1, hS1, hW1⟩; have X1 := Aside0.mk hS1; have Y1 := Aside0.mk hW1; clear hS1 hW1) | (go_at_fn 134; refine (HLC.out gB1 gB2 _ _ X1.out Y1.out).mono ?_; rintro e_ w2 ⟨rfl, d2, hS2, hW2⟩; have X2 := Aside0.mk hS2; have Y2 := Aside0.mk hW2; clear hS2 hW2))
                      all_goals go_end0
                      all_goals exact ⟨rfl, _, X2.out, FIN.out _ _ _ Y1.out Y2.out (Aside0.mk (NR.out _ _ Y1.out Y2.out (by omega))).out⟩
                · have fB : (decide ((a : Int) < (s : Int)) && decide ((s : Int) < (mid : Int))) = false := by
                    rw [Bool.and_eq_false_iff, decide_eq_false_iff_not, decide_eq_false_iff_not]; omega
                  by_cases nnB : a < s
                  · have fB1 : decide ((a : Int) < (s : Int)) = true := decide_eq_true (by omega)
                    have fB2 : decide ((s : Int) < (mid : Int)) = false := decide_eq_false (by omega)
                    have fB3 : ¬ ((s : Int) < (mid : Int)) := by omega
                    by_cases gC : mid < e ∧ e < b
                    · obtain ⟨gC1, gC2⟩ := gC
                      have fC1 : decide ((mid : Int) < (e : Int)) = true := decide_eq_true (by omega)
                      have fC2 : decide ((e : Int) < (b : Int)) = true := decide_eq_true (by omega)
                      go_wp2_with (first | (go_at_fn 158; refine (HA158.out gA1 gA2 _ hA.out).mono ?_; rintro e_ w1 ⟨rfl, d1, hS1, hW1⟩; have X1 := Aside0.mk hS1; have Y1 := Aside0.mk hW1; clear hS1 hW1) | (go_at_fn 134; refine (HRC.out gC1 gC2 _ _ _ X1.out Y1.out (Aside0.mk (NL.out _ Y1.out (by omega))).out).mono ?_; rintro e_ w3 ⟨rfl, d3, hS3, hW3⟩; have X3 := Aside0.mk hS3; have Y3 := Aside0.mk hW3; clear hS3 hW3))
                      all_goals go_end0
                      all_goals exact ⟨rfl, _, X3.out, FIN.out _ _ _ Y1.out (Aside0.mk (NL.out _ Y1.out (by omega))).out Y3.out⟩
                    · have fC : (decide ((mid : Int) < (e : Int)) && decide ((e : Int) < (b : Int))) = false := by
                        rw [Bool.and_eq_false_iff, decide_eq_false_iff_not, decide_eq_false_iff_not]; omega
                      by_cases nnC : mid < e
                      · have fC1 : decide ((mid : Int) < (e : Int)) = true := decide_eq_true (by omega)
                        have fC2 : decide ((e : Int) < (b : Int)) = false := decide_eq_false (by omega)
                        have fC3 : ¬ ((e : Int) < (b : Int)) := by omega
                        go_wp2_with (first | (go_at_fn 158; refine (HA158.out gA1 gA2 _ hA.out).mono ?_; rintro e_ w1 ⟨rfl, d1, hS1, hW1⟩; have X1 := Aside0.mk hS1; have Y1 := Aside0.mk hW1; clear hS1 hW1))
                        all_goals go_end0
                        all_goals exact ⟨rfl, _, X1.out, FIN.out _ _ _ Y1.out (Aside0.mk (NL.out _ Y1.out (by omega))).out (Aside0.mk (NR.out _ _ Y1.out (Aside0.mk (NL.out _ Y1.out (by omega))).out (by omega))).out⟩
                      · have fC1 : decide ((mid : Int) < (e : Int)) = false := decide_eq_false (by omega)
                        have fC3 : ¬ ((mid : Int) < (e : Int)) := by omega
                        go_wp2_with (first | (go_at_fn 158; refine (HA158.out gA1 gA2 _ hA.out).mono ?_; rintro e_ w1 ⟨rfl, d1, hS1, hW1⟩; have X1 := Aside0.mk hS1; have Y1 := Aside0.mk hW1; clear hS1 hW1))
                        all_goals go_end0
                        all_goals exact ⟨rfl, _, X1.out, FIN.out _ _ _ Y1.out (Aside0.mk (NL.out _ Y1.out (by omega))).out (Aside0.mk (NR.out _ _ Y1.out (Aside0.mk (NL.out _ Y1.out (by omega))).out (by omega))).out⟩
                  · have fB1 : decide ((a : Int) < (s : Int)) = false := decide_eq_false (by omega)
                    have fB3 : ¬ ((a : Int) < (s : Int)) := by omega
                    by_cases gC : mid < e ∧ e < b
                    · obtain ⟨gC1, gC2⟩ := gC
                      have fC1 : decide ((mid : Int) < (e : Int)) = true := decide_eq_true (by omega)
                      have fC2 : decide ((e : Int) < (b : Int)) = true := decide_eq_true (by omega)
                      go_wp2_with (first | (go_at_fn 158; refine (HA158.out gA1 gA2 _ hA.out).mono ?_; rintro e_ w1 ⟨rfl, d1, hS1, hW1⟩; have X1 := Aside0.mk hS1; have Y1 := Aside0.mk hW1; clear hS1 hW1) | (go_at_fn 134; refine (HRC.out gC1 gC2 _ _ _ X1.out Y1.out (Aside0.mk (NL.out _ Y1.out (by omega))).out).mono ?_; rintro e_ w3 ⟨rfl, d3, hS3, hW3⟩; have X3 := Aside0.mk hS3; have Y3 := Aside0.mk hW3; clear hS3 hW3))
                      all_goals go_end0
                      all_goals exact ⟨rfl, _, X3.out, FIN.out _ _ _ Y1.out (Aside0.mk (NL.out _ Y1.out (by omega))).out Y3.out⟩
                    · have fC : (decide ((mid : Int) < (e : Int)) && decide ((e : Int) < (b : Int))) = false := by
                        rw [Bool.and_eq_false_iff, decide_eq_false_iff_not, decide_eq_false_iff_not]; omega
                      by_cases nnC : mid < e
                      · have fC1 : decide ((mid : Int) < (e : Int)) = true := decide_eq_true (by omega)
                        have fC2 : decide ((e : Int) < (b : Int)) = false := decide_eq_false (by omega)
                        have fC3 : ¬ ((e : Int) < (b : Int)) := by omega
                        go_wp2_with (first | (go_at_fn 158; refine (HA158.out gA1 gA2 _ hA.out).mono ?_; rintro e_ w1 ⟨rfl, d1, hS1, hW1⟩; have X1 := Aside0.mk hS1; have Y1 := Aside0.mk hW1; clear hS1 hW1))
                        all_goals go_end0
                        all_goals exact ⟨rfl, _, X1.out, FIN.out _ _ _ Y1.out (Aside0.mk (NL.out _ Y1.out (by omega))).out (Aside0.mk (NR.out _ _ Y1.out (Aside0.mk (NL.out _ Y1.out (by omega))).out (by omega))).out⟩
                      · have fC1 : decide ((mid : Int) < (e : Int)) = false := decide_eq_false (by omega)
                        have fC3 : ¬ ((mid : Int) < (e : Int)) := by omega
                        go_wp2_with (first | (go_at_fn 158; refine (HA158.out gA1 gA2 _ hA.out).mono ?_; rintro e_ w1 ⟨rfl, d1, hS1, hW1⟩; have X1 := Aside0.mk hS1; have Y1 := Aside0.mk hW1; clear hS1 hW1))
                        all_goals go_end0
                        all_goals exact ⟨rfl, _, X1.out, FIN.out _ _ _ Y1.out (Aside0.mk (NL.out _ Y1.out (by omega))).out (Aside0.mk (NR.out _ _ Y1.out (Aside0.mk (NL.out _ Y1.out (by omega))).out (by omega))).out⟩
              · have fA : (decide ((s : Int) < (m : Int)) && decide ((m : Int) < (e : Int))) = false := by
                  rw [Bool.and_eq_false_iff, decide_eq_false_iff_not, decide_eq_false_iff_not]; omega
                by_cases nnA : s < m
                · have fA1 : decide ((s : Int) < (m : Int)) = true := decide_eq_true (by omega)
                  have fA2 : decide ((m : Int) < (e : Int)) = false := decide_eq_false (by omega)
                  have fA3 : ¬ ((m : Int) < (e : Int)) := by omega
                  by_cases gB : a < s ∧ s < mid
                  · obtain ⟨gB1, gB2⟩ := gB
                    have fB1 : decide ((a : Int) < (s : Int)) = true := decide_eq_true (by omega)
                    have fB2 : decide ((s : Int) < (mid : Int)) = true := decide_eq_true (by omega)
                    by_cases gC : mid < e ∧ e < b
                    · obtain ⟨gC1, gC2⟩ := gC
                      have fC1 : decide ((mid : Int) < (e : Int)) = true := decide_eq_true (by omega)
                      have fC2 : decide ((e : Int) < (b : Int)) = true := decide_eq_true (by omega)
                      go_wp2_with (first | (go_at_fn 134; refine (HRC.out gC1 gC2 _ _ _ X2.out (Aside0.mk (NROT.out (by omega))).out Y2.out).mono ?_; rintro e_ w3 ⟨rfl, d3, hS3, hW3⟩; have X3 := Aside0.mk hS3; have Y3 := Aside0.mk hW3; clear hS3 hW3) | (go_at_fn 134; refine (HLC.out gB1 gB2 _ _ hA.out (Aside0.mk (NROT.out (by omega))).out).mono ?_; rintro e_ w2 ⟨rfl, d2, hS2, hW2⟩; have X2 := Aside0.mk hS2; have Y2 := Aside0.mk hW2; clear hS2 hW2))
                      all_goals go_end0
                      all_goals exact ⟨rfl, _, X3.out, FIN.out _ _ _ (Aside0.mk (NROT.out (by omega))).out Y2.out Y3.out⟩
                    · have fC : (decide ((mid : Int) < (e : Int)) && decide ((e : Int) < (b : Int))) = false := by
                        rw [Bool.and_eq_false_iff, decide_eq_false_iff_not, decide_eq_false_iff_not]; omega
                      by_cases nnC : mid < e
                      · have fC1 : decide ((mid : Int) < (e : Int)) = true := decide_eq_true (by omega)
                        have fC2 : decide ((e : Int) < (b : Int)) = false := decide_eq_false (by omega)
                        have fC3 : ¬ ((e : Int) < (b : Int)) := by omega
                        go_wp2_with (first | (go_at_fn 134; refine (HLC.out gB1 gB2 _ _ hA.out (Aside0.mk (NROT.out (by omega))).out).mono ?_; rintro e_ w2 ⟨rfl, d2, hS2, hW2⟩; have X2 := Aside0.mk hS2; have Y2 := Aside0.mk hW2; clear hS2 hW2))
                        all_goals go_end0
                        all_goals exact ⟨rfl, _, X2.out, FIN.out _ _ _ (Aside0.mk (NROT.out (by omega))).out Y2.out (Aside0.mk (NR.out _ _ (Aside0.mk (NROT.out (by omega))).out Y2.out (by omega))).out⟩
                      · have fC1 : decide ((mid : Int) < (e : Int)) = false := decide_eq_false (by omega)
                        have fC3 : ¬ ((mid : Int) < (e : Int)) := by omega
                        go_wp2_with (first | (go_at_fn 134; refine (HLC.out gB1 gB2 _ _ hA.out (Aside0.mk (NROT.out (by omega))).out).mono ?_; rintro e_ w2 ⟨rfl, d2, hS2, hW2⟩; have X2 := Aside0.mk hS2; have Y2 := Aside0.mk hW2; clear hS2 hW2))
                        all_goals go_end0
                        all_goals exact ⟨rfl, _, X2.out, FIN.out _ _ _ (Aside0.mk (NROT.out (by omega))).out Y2.out (Aside0.mk (NR.out _ _ (Aside0.mk (NROT.out (by omega))).out Y2.out (by omega))).out⟩
                  · have fB : (decide ((a : Int) < (s : Int)) && decide ((s : Int) < (mid : Int))) = false := by
                      rw [Bool.and_eq_false_iff, decide_eq_false_iff_not, decide_eq_false_iff_not]; omega
                    by_cases nnB : a < s
                    · have fB1 : decide ((a : Int) < (s : Int)) = true := decide_eq_true (by omega)
                      have fB2 : decide ((s : Int) < (mid : Int)) = false := decide_eq_false (by omega)
                      have fB3 : ¬ ((s : Int) < (mid : Int)) := by omega
                      by_cases gC : mid < e ∧ e < b
                      · obtain ⟨gC1, gC2⟩ := gC
                        have fC1 : decide ((mid : Int) < (e : Int)) = true := decide_eq_true (by omega)
                        have fC2 : decide ((e : Int) < (b : Int)) = true := decide_eq_true (by omega)
                        go_wp2_with (first | (go_at_fn 134; refine (HRC.out gC1 gC2 _ _ _ hA.out (Aside0.mk (NROT.out (by omega))).out (Aside0.mk (NL.out _ (Aside0.mk (NROT.out (by omega))).out (by omega))).out).mono ?_; rintro e_ w3 ⟨rfl, d3, hS3, hW3⟩; have X3 := Aside0.mk hS3; have Y3 := Aside0.mk hW3; clear hS3 hW3))
                        all_goals go_end0
                        all_goals exact ⟨rfl, _, X3.out, FIN.out _ _ _ (Aside0.mk (NROT.out (by omega))).out (Aside0.mk (NL.out _ (Aside0.mk (NROT.out (by omega))).out (by omega))).out Y3.out⟩
                      · have fC : (decide ((mid : Int) < (e : Int)) && decide ((e : Int) < (b : Int))) = false := by
                          rw [Bool.and_eq_false_iff, decide_eq_false_iff_not, decide_eq_false_iff_not]; omega
                        by_cases nnC : mid < e
                        · have fC1 : decide ((mid : Int) < (e : Int)) = true := decide_eq_true (by omega)
                          have fC2 : decide ((e : Int) < (b : Int)) = false := decide_eq_false (by omega)
                          have fC3 : ¬ ((e : Int) < (b : Int)) := by omega
                          go_wp2_with fail
                          all_goals go_end0
                          all_goals exact ⟨rfl, _, hA.out, FIN.out _ _ _ (Aside0.mk (NROT.out (by omega))).out (Aside0.mk (NL.out _ (Aside0.mk (NROT.out (by omega))).out (by omega))).out (Aside0.mk (NR.out _ _ (Aside0.mk (NROT.out (by omega))).out (Aside0.mk (NL.out _ (Aside0.mk (NROT.out (by omega))).out (by omega))).out (by omega))).out⟩
                        · have fC1 : decide ((mid : Int) < (e : Int)) = false := decide_eq_false (by omega)
                          have fC3 : ¬ ((mid : Int) < (e : Int)) := by omega
                          go_wp2_with fail
                          all_goals go_end0
                          all_goals exact ⟨rfl, _, hA.out, FIN.out _ _ _ (Aside0.mk (NROT.out (by omega))).out (Aside0.mk (NL.out _ (Aside0.mk (NROT.out (by omega))).out (by omega))).out (Aside0.mk (NR.out _ _ (Aside0.mk (NROT.out (by omega))).out (Aside0.mk (NL.out _ (Aside0.mk (NROT.out (by omega))).out (by omega))).out (by omega))).out⟩
                    · have fB1 : decide ((a : Int) < (s : Int)) = false := decide_eq_false (by omega)
                      have fB3 : ¬ ((a : Int) < (s : Int)) := by omega
                      by_cases gC : mid < e ∧ e < b
                      · obtain ⟨gC1, gC2⟩ := gC
                        have fC1 : decide ((mid : Int) < (e : Int)) = true := decide_eq_true (by omega)
                        have fC2 : decide ((e : Int) < (b : Int)) = true := decide_eq_true (by omega)
                        go_wp2_with (first | (go_at_fn 134; refine (HRC.out gC1 gC2 _ _ _ hA.out (Aside0.mk (NROT.out (by omega))).out (Aside0.mk (NL.out _ (Aside0.mk (NROT.out (by omega))).out (by omega))).out).mono ?_; rintro e_ w3 ⟨rfl, d3, hS3, hW3⟩; have X3 := Aside0.mk hS3; have Y3 := Aside0.mk hW3; clear hS3 hW3))
                        all_goals go_end0
                        all_goals exact ⟨rfl, _, X3.out, FIN.out _ _ _ (Aside0.mk (NROT.out (by omega))).out (Aside0.mk (NL.out _ (Aside0.mk (NROT.out (by omega))).out (by omega))).out Y3.out⟩
                      · have fC : (decide ((mid : Int) < (e : Int)) && decide ((e : Int) < (b : Int))) = false := by
                          rw [Bool.and_eq_false_iff, decide_eq_false_iff_not, decide_eq_false_iff_not]; omega
                        by_cases nnC : mid < e
                        · have fC1 : decide ((mid : Int) < (e : Int)) = true := decide_eq_true (by omega)
                          have fC2 : decide ((e : Int) < (b : Int)) = false := decide_eq_false (by omega)
                          have fC3 : ¬ ((e : Int) < (b : Int)) := by omega
                          go_wp2_with fail
                          all_goals go_end0
                          all_goals exact ⟨rfl, _, hA.out, FIN.out _ _ _ (Aside0.mk (NROT.out (by omega))).out (Aside0.mk (NL.out _ (Aside0.mk (NROT.out (by omega))).out (by omega))).out (Aside0.mk (NR.out _ _ (Aside0.mk (NROT.out (by omega))).out (Aside0.mk (NL.out _ (Aside0.mk (NROT.out (by omega))).out (by omega))).out (by omega))).out⟩
                        · have fC1 : decide ((mid : Int) < (e : Int)) = false := decide_eq_false (by omega)
                          have fC3 : ¬ ((mid : Int) < (e : Int)) := by omega
                          go_wp2_with fail
                          all_goals go_end0
                          all_goals exact ⟨rfl, _, hA.out, FIN.out _ _ _ (Aside0.mk (NROT.out (by omega))).out (Aside0.mk (NL.out _ (Aside0.mk (NROT.out (by omega))).out (by omega))).out (Aside0.mk (NR.out _ _ (Aside0.mk (NROT.out (by omega))).out (Aside0.mk (NL.out _ (Aside0.mk (NROT.out (by omega))).out (by omega))).out (by omega))).out⟩
                · have fA1 : decide ((s : Int) < (m : Int)) = false := decide_eq_false (by omega)
                  have fA3 : ¬ ((s : Int) < (m : Int)) := by omega
                  by_cases gB : a < s ∧ s < mid
                  · obtain ⟨gB1, gB2⟩ := gB
                    have fB1 : decide ((a : Int) < (s : Int)) = true := decide_eq_true (by omega)
                    have fB2 : decide ((s : Int) < (mid : Int)) = true := decide_eq_true (by omega)
                    by_cases gC : mid < e ∧ e < b
                    · obtain ⟨gC1, gC2⟩ := gC
                      have fC1 : decide ((mid : Int) < (e : Int)) = true := decide_eq_true (by omega)
                      have fC2 : decide ((e : Int) < (b : Int)) = true := decide_eq_true (by omega)
                      go_wp2_with (first | (go_at_fn 134; refine (HRC.out gC1 gC2 _ _ _ X2.out (Aside0.mk (NROT.out (by omega))).out Y2.out).mono ?_; rintro e_ w3 ⟨rfl, d3, hS3, hW3⟩; have X3 := Aside0.mk hS3; have Y3 := Aside0.mk hW3; clear hS3 hW3) | (go_at_fn 134; refine (HLC.out gB1 gB2 _ _ hA.out (Aside0.mk (NROT.out (by omega))).out).mono ?_; rintro e_ w2 ⟨rfl, d2, hS2, hW2⟩; have X2 := Aside0.mk hS2; have Y2 := Aside0.mk hW2; clear hS2 hW2))
                      all_goals go_end0
                      all_goals exact ⟨rfl, _, X3.out, FIN.out _ _ _ (Aside0.mk (NROT.out (by omega))).out Y2.out Y3.out⟩
                    · have fC : (decide ((mid : Int) < (e : Int)) && decide ((e : Int) < (b : Int))) = false := by
                        rw [Bool.and_eq_false_iff, decide_eq_false_iff_not, decide_eq_false_iff_not]; omega
                      by_cases nnC : mid < e
                      · have fC1 : decide ((mid : Int) < (e : Int)) = true := decide_eq_true (by omega)
                        have fC2 : decide ((e : Int) < (b : Int)) = false := decide_eq_false (by omega)
                        have fC3 : ¬ ((e : Int) < (b : Int)) := by omega
                        go_wp2_with (first | (go_at_fn 134; refine (HLC.out gB1 gB2 _ _ hA.out (Aside0.mk (NROT.out (by omega))).out).mono ?_; rintro e_ w2 ⟨rfl, d2, hS2, hW2⟩; have X2 := Aside0.mk hS2; have Y2 := Aside0.mk hW2; clear hS2 hW2))
                        all_goals go_end0
                        all_goals exact ⟨rfl, _, X2.out, FIN.out _ _ _ (Aside0.mk (NROT.out (by omega))).out Y2.out (Aside0.mk (NR.out _ _ (Aside0.mk (NROT.out (by omega))).out Y2.out (by omega))).out⟩
                      · have fC1 : decide ((mid : Int) < (e : Int)) = false := decide_eq_false (by omega)
                        have fC3 : ¬ ((mid : Int) < (e : Int)) := by omega
                        go_wp2_with (first | (go_at_fn 134; refine (HLC.out gB1 gB2 _ _ hA.out (Aside0.mk (NROT.out (by omega))).out).mono ?_; rintro e_ w2 ⟨rfl, d2, hS2, hW2⟩; have X2 := Aside0.mk hS2; have Y2 := Aside0.mk hW2; clear hS2 hW2))
                        all_goals go_end0
                        all_goals exact ⟨rfl, _, X2.out, FIN.out _ _ _ (Aside0.mk (NROT.out (by omega))).out Y2.out (Aside0.mk (NR.out _ _ (Aside0.mk (NROT.out (by omega))).out Y2.out (by omega))).out⟩
                  · have fB : (decide ((a : Int) < (s : Int)) && decide ((s : Int) < (mid : Int))) = false := by
                      rw [Bool.and_eq_false_iff, decide_eq_false_iff_not, decide_eq_false_iff_not]; omega
                    by_cases nnB : a < s
                    · have fB1 : decide ((a : Int) < (s : Int)) = true := decide_eq_true (by omega)
                      have fB2 : decide ((s : Int) < (mid : Int)) = false := decide_eq_false (by omega)
                      have fB3 : ¬ ((s : Int) < (mid : Int)) := by omega
                      by_cases gC : mid < e ∧ e < b
                      · obtain ⟨gC1, gC2⟩ := gC
                        have fC1 : decide ((mid : Int) < (e : Int)) = true := decide_eq_true (by omega)
                        have fC2 : decide ((e : Int) < (b : Int)) = true := decide_eq_true (by omega)
                        go_wp2_with (first | (go_at_fn 134; refine (HRC.out gC1 gC2 _ _ _ hA.out (Aside0.mk (NROT.out (by omega))).out (Aside0.mk (NL.out _ (Aside0.mk (NROT.out (by omega))).out (by omega))).out).mono ?_; rintro e_ w3 ⟨rfl, d3, hS3, hW3⟩; have X3 := Aside0.mk hS3; have Y3 := Aside0.mk hW3; clear hS3 hW3))
                        all_goals go_end0
                        all_goals exact ⟨rfl, _, X3.out, FIN.out _ _ _ (Aside0.mk (NROT.out (by omega))).out (Aside0.mk (NL.out _ (Aside0.mk (NROT.out (by omega))).out (by omega))).out Y3.out⟩
                      · have fC : (decide ((mid : Int) < (e : Int)) && decide ((e : Int) < (b : Int))) = false := by
                          rw [Bool.and_eq_false_iff, decide_eq_false_iff_not, decide_eq_false_iff_not]; omega
                        by_cases nnC : mid < e
                        · have fC1 : decide ((mid : Int) < (e : Int)) = true := decide_eq_true (by omega)
                          have fC2 : decide ((e : Int) < (b : Int)) = false := decide_eq_false (by omega)
                          have fC3 : ¬ ((e : Int) < (b : Int)) := by omega
                          go_wp2_with fail
                          all_goals go_end0
                          all_goals exact ⟨rfl, _, hA.out, FIN.out _ _ _ (Aside0.mk (NROT.out (by omega))).out (Aside0.mk (NL.out _ (Aside0.mk (NROT.out (by omega))).out (by omega))).out (Aside0.mk (NR.out _ _ (Aside0.mk (NROT.out (by omega))).out (Aside0.mk (NL.out _ (Aside0.mk (NROT.out (by omega))).out (by omega))).out (by omega))).out⟩
                        · have fC1 : decide ((mid : Int) < (e : Int)) = false := decide_eq_false (by omega)
                          have fC3 : ¬ ((mid : Int) < (e : Int)) := by omega
                          go_wp2_with fail
                          all_goals go_end0
                          all_goals exact ⟨rfl, _, hA.out, FIN.out _ _ _ (Aside0.mk (NROT.out (by omega))).out (Aside0.mk (NL.out _ (Aside0.mk (NROT.out (by omega))).out (by omega))).out (Aside0.mk (NR.out _ _ (Aside0.mk (NROT.out (by omega))).out (Aside0.mk (NL.out _ (Aside0.mk (NROT.out (by omega))).out (by omega))).out (by omega))).out⟩
                    · have fB1 : decide ((a : Int) < (s : Int)) = false := decide_eq_false (by omega)
                      have fB3 : ¬ ((a : Int) < (s : Int)) := by omega
                      by_cases gC : mid < e ∧ e < b
                      · obtain ⟨gC1, gC2⟩ := gC
                        have fC1 : decide ((mid : Int) < (e : Int)) = true := decide_eq_true (by omega)
                        have fC2 : decide ((e : Int) < (b : Int)) = true := decide_eq_true (by omega)
                        go_wp2_with (first | (go_at_fn 134; refine (HRC.out gC1 gC2 _ _ _ hA.out (Aside0.mk (NROT.out (by omega))).out (Aside0.mk (NL.out _ (Aside0.mk (NROT.out (by omega))).out (by omega))).out).mono ?_; rintro e_ w3 ⟨rfl, d3, hS3, hW3⟩; have X3 := Aside0.mk hS3; have Y3 := Aside0.mk hW3; clear hS3 hW3))
                        all_goals go_end0
                        all_goals exact ⟨rfl, _, X3.out, FIN.out _ _ _ (Aside0.mk (NROT.out (by omega))).out (Aside0.mk (NL.out _ (Aside0.mk (NROT.out (by omega))).out (by omega))).out Y3.out⟩
                      · have fC : (decide ((mid : Int) < (e : Int)) && decide ((e : Int) < (b : Int))) = false := by
                          rw [Bool.and_eq_false_iff, decide_eq_false_iff_not, decide_eq_false_iff_not]; omega
                        by_cases nnC : mid < e
                        · have fC1 : decide ((mid : Int) < (e : Int)) = true := decide_eq_true (by omega)
                          have fC2 : decide ((e : Int) < (b : Int)) = false := decide_eq_false (by omega)
                          have fC3 : ¬ ((e : Int) < (b : Int)) := by omega
                          go_wp2_with fail
                          all_goals go_end0
                          all_goals exact ⟨rfl, _, hA.out, FIN.out _ _ _ (Aside0.mk (NROT.out (by omega))).out (Aside0.mk (NL.out _ (Aside0.mk (NROT.out (by omega))).out (by omega))).out (Aside0.mk (NR.out _ _ (Aside0.mk (NROT.out (by omega))).out (Aside0.mk (NL.out _ (Aside0.mk (NROT.out (by omega))).out (by omega))).out (by omega))).out⟩
                        · have fC1 : decide ((mid : Int) < (e : Int)) = false := decide_eq_false (by omega)
                          have fC3 : ¬ ((mid : Int) < (e : Int)) := by omega
                          go_wp2_with fail
                          all_goals go_end0
                          all_goals exact ⟨rfl, _, hA.out, FIN.out _ _ _ (Aside0.mk (NROT.out (by omega))).out (Aside0.mk (NL.out _ (Aside0.mk (NROT.out (by omega))).out (by omega))).out (Aside0.mk (NR.out _ _ (Aside0.mk (NROT.out (by omega))).out (Aside0.mk (NL.out _ (Aside0.mk (NROT.out (by omega))).out (by omega))).out (by omega))).out⟩
end Go.Proofs.YtkmcbpkciakmeaaGreatDoor.PA

/- slices.stableCmpFunc, SortStableFunc and tree.Sort of entries that need not be in order: the one stable order of their paths. -/
set_option linter.unusedVariables false
set_option linter.unusedSimpArgs false
namespace Go.Proofs.YtkmcbpkciakmeaaGreatDoor.PA
open Go.Shelf Go.Sort Go.RowKit Go.Proofs.YtkmcbpkciakmeaaGreatDoorW.PrintWords Go.Proofs.YtkmcbpkciakmeaaGreatDoorW.PrintLast Go.Proofs.YtkmcbpkciakmeaaGreatDoorW.PrintMore

def cfS (x y : S44) : Int := cmpS x.f1 y.f1
def ltS : S44 → S44 → Bool := ltOf cfS
theorem ltS_iff {x y : S44} : ltS x y = true ↔ Op.bytesLess x.f1.toList y.f1.toList = true := by
  unfold ltS ltOf cfS
  rw [decide_eq_true_eq, cmpS_neg]
theorem ltS_not {x y : S44} : ltS x y = false ↔ Op.bytesLess x.f1.toList y.f1.toList = false := by
  rw [← Bool.not_eq_true, ← Bool.not_eq_true, ltS_iff]
theorem swo_ltS : SWO ltS := by
  refine ⟨fun x => ltS_not.2 (bl_irrefl _), fun x y z h1 h2 => ltS_iff.2 (bl_trans _ _ _ (ltS_iff.1 h1) (ltS_iff.1 h2)), fun x y z h1 h2 => ltS_not.2 ?_⟩
  have h1 := ltS_not.1 h1; have h2 := ltS_not.1 h2
  cases h : Op.bytesLess x.f1.toList z.f1.toList with
  | false => rfl
  | true =>
    exfalso
    cases h3 : Op.bytesLess y.f1.toList x.f1.toList with
    | true => have := bl_trans _ _ _ h3 h; rw [h2] at this; cases this
    | false => rw [bl_tri _ _ h1 h3, h2] at h; cases h
theorem cmpLaysS (g size : Nat) (w : World) : CmpLays Tryz.prog 61 #[] flat1 6 cfS g 0 size w := fun m os dk hs x y => less_grown x y _
theorem eg61 : ∀ args w, (callFunc 61 args).run Tryz.prog w = .ok (.enter 61 args) w := enters_of Tryz.func61 (by kernel_rfl) rfl

theorem ins_g (g c0 : Nat) (d0 d : Array S44) (w0 W : World) (R : RowK flat1 6 w0 g 0 d0) (hs : d.size = d0.size) (S : SWK flat1 6 w0 g 0 d W) (a b : Nat) (hab : a ≤ b) (hb : b ≤ d0.size) (hn : d0.size ≤ 1000) :
    Calls Tryz.prog 133 #[.slice (some ⟨g, 0, none⟩) d0.size c0, .int .i64 a, .int .i64 b, .func (.func 61) #[] #[]] W fun e w' => e = .returned (.tuple #[]) ∧ ∃ d', SWK flat1 6 w0 g 0 d' w' ∧ Done ltS a b d d' := by
  have h := AnyQ.insertionSortCmpFunc Tryz.insK 6 Tryz.isAgg44 Tryz.sizeOf44 flat1 R.hk R.h1 cfS 61 #[] g 0 c0 a b d W eg61 (cmpLaysS g d.size W) (S.holds R.hblk R.hH hs) (S.lt R.hblk) hab (by omega) (by omega)
  rw [hs] at h
  refine Calls.mono h ?_
  rintro e w' ⟨he, n, os, rfl⟩
  have hd := insertion_done swo_ltS d a b hab (by omega)
  exact ⟨he, _, S.on R.hblk n _ os hd.size, hd⟩
theorem sym_g (g c0 : Nat) (d0 d : Array S44) (w0 W : World) (R : RowK flat1 6 w0 g 0 d0) (hs : d.size = d0.size) (S : SWK flat1 6 w0 g 0 d W) (a m b : Nat) (h1 : a < m) (h2 : m < b) (hb : b ≤ d0.size) (hn : d0.size ≤ 1000) (s1 : SortedIn ltS a m d) (s2 : SortedIn ltS m b d) :
    Calls Tryz.prog 134 #[.slice (some ⟨g, 0, none⟩) d0.size c0, .int .i64 a, .int .i64 m, .int .i64 b, .func (.func 61) #[] #[]] W fun e w' => e = .returned (.tuple #[]) ∧ ∃ d', SWK flat1 6 w0 g 0 d' w' ∧ Done ltS a b d d' :=
  (symMerge_g sg_tryz 6 Tryz.isAgg44 Tryz.sizeOf44 flat1 cfS 61 #[] eg61 swo_ltS g 0 c0 d0 w0 (cmpLaysS g d0.size w0) R hn (b - a) a m b (Nat.le_refl _) h1 h2 hb d W hs S s1 s2).mono fun e w' ⟨he, d', hS, hM⟩ => ⟨he, d', hS, hM.done⟩

set_option maxHeartbeats 4000000 in
set_option maxRecDepth 100000 in
theorem stable_g (g c0 : Nat) (d0 : Array S44) (w0 W : World) (R : RowK flat1 6 w0 g 0 d0) (S : SWK flat1 6 w0 g 0 d0 W) (hn : d0.size ≤ 1000) :
    Calls Tryz.prog 95 #[.slice (some ⟨g, 0, none⟩) d0.size c0, .int .i64 d0.size, .func (.func 61) #[] #[]] W fun e w' => e = .returned (.tuple #[]) ∧ ∃ d', SWK flat1 6 w0 g 0 d' w' ∧ d'.size = d0.size ∧ Keeps ltS d0.toList d'.toList ∧ SortedIn ltS 0 d0.size d' := by
  have H133 := Aside0.mk (fun (d : Array S44) (W : World) (a b : Nat) (hs : d.size = d0.size) (S : SWK flat1 6 w0 g 0 d W) (hab : a ≤ b) (hb : b ≤ d0.size) => ins_g g c0 d0 d w0 W R hs S a b hab hb hn)
  have H134 := Aside0.mk (fun (d : Array S44) (W : World) (a m b : Nat) (hs : d.size = d0.size) (S : SWK flat1 6 w0 g 0 d W) (h1 : a < m) (h2 : m < b) (hb : b ≤ d0.size) (s1 : SortedIn ltS a m d) (s2 : SortedIn ltS m b d) => sym_g g c0 d0 d w0 W R hs S a m b h1 h2 hb hn s1 s2)
  have S0 := Aside0.mk S
  obtain ⟨n, hnn⟩ : ∃ n, n = d0.size := ⟨_, rfl⟩
  have HN := Aside0.mk hnn
  rw [← hnn] at H133 H134 hn ⊢
  clear hnn S R
  go_enter Tryz.func95, Tryz.ntmps95
  go_wp2_with fail
  go_loopw [7, 8] (fun v7 v8 wr => ∃ (a : Nat) (d : Array S44), v7 = .int .i64 a ∧ v8 = .int .i64 (a + 20) ∧ a ≤ n ∧ Aside0 (SWK flat1 6 w0 g 0 d wr) ∧ Aside0 (Pass ltS d0 d 20 n a)) (fun v7 _ _ => 2000 - (intOf v7).toNat)
  case atStart => exact ⟨0, d0, rfl, rfl, by omega, S0, ⟨Pass.start d0 d0 20 n rfl (Keeps.refl _)⟩⟩
  case round =>
    obtain ⟨a, d, rfl, rfl, ha, hA, hP⟩ := hrel
    have hds : d.size = n := by rw [hP.out.size, HN.out]
    by_cases hb : a + 20 ≤ n
    · have hbi : (a : Int) + 20 ≤ (n : Int) := by omega
      have HI := Aside0.mk (H133.out d _ a (a + 20) (by rw [hds]) hA.out (by omega) hb)
      have HI2 : Aside0 (Calls Tryz.prog 133 #[.slice (some ⟨g, 0, none⟩) n c0, .int .i64 a, .int .i64 ((a : Int) + 20), .func (.func 61) #[] #[]] wr fun e w' => e = .returned (.tuple #[]) ∧ ∃ d', SWK flat1 6 w0 g 0 d' w' ∧ Done ltS a (a + 20) d d') := ⟨by have := HI.out; push_cast at this; exact this⟩
      clear HI
      go_wp2_with (first | (go_at_call 133; refine (HI2.out).mono ?_; rintro e w1 ⟨rfl, d1, hS1, hD1⟩; have X1 := Aside0.mk hS1; have Y1 := Aside0.mk (hP.out.step hD1 hb); clear hS1 hD1))
      go_roundw
      case rel => exact ⟨a + 20, d1, by push_cast; rfl, by push_cast; rfl, hb, X1, Y1⟩
      case measure => simp [intOf]; omega
    · have hbi : ¬ ((a : Int) + 20 ≤ (n : Int)) := by omega
      have HI := Aside0.mk (H133.out d _ a n (by rw [hds]) hA.out ha (Nat.le_refl _))
      go_wp2_with (first | (go_at_call 133; refine (HI.out).mono ?_; rintro e w1 ⟨rfl, d1, hS1, hD1⟩; have X1 := Aside0.mk hS1; have Y1 := Aside0.mk (hP.out.fin hD1 (by omega)); clear hS1 hD1))
      clear HI hb hbi hA hP hds
      go_loopw [6] (fun v6 wx => ∃ (bs : Nat) (d : Array S44), v6 = .int .i64 bs ∧ 20 ≤ bs ∧ bs ≤ 4000 ∧ Aside0 (SWK flat1 6 w0 g 0 d wx) ∧ Aside0 (d.size = d0.size ∧ Keeps ltS d0.toList d.toList ∧ Runs ltS d bs n 0)) (fun v6 _ => 4000 - (intOf v6).toNat)
      case atStart => exact ⟨20, d1, rfl, by omega, by omega, X1, Y1⟩
      case round =>
        clear X1 Y1
        obtain ⟨bs, d2, rfl, hbs, hbs2, hX, hR⟩ := hrel
        by_cases hlt : bs < n
        · have hlti : (bs : Int) < (n : Int) := by omega
          go_wp2_with fail
          go_loopw [7, 8] (fun v7 v8 wy => ∃ (a' : Nat) (d : Array S44), v7 = .int .i64 a' ∧ v8 = .int .i64 ((a' : Int) + 2 * (bs : Int)) ∧ a' ≤ n ∧ Aside0 (SWK flat1 6 w0 g 0 d wy) ∧ Aside0 (Pass ltS d0 d (2 * bs) n a') ∧ Aside0 (a' < n → Runs ltS d bs n a')) (fun v7 _ _ => 2000 - (intOf v7).toNat)
          case atStart => exact ⟨0, d2, rfl, by simp, by omega, hX, ⟨Pass.start d0 d2 (2 * bs) n hR.out.1 hR.out.2.1⟩, ⟨fun _ => hR.out.2.2⟩⟩
          case round =>
            clear hX hR
            obtain ⟨a', d, rfl, rfl, ha', hY, hP, hR⟩ := hrel
            have hds : d.size = n := by rw [hP.out.size, HN.out]
            by_cases hb : a' + 2 * bs ≤ n
            · have hbi : (a' : Int) + 2 * (bs : Int) ≤ (n : Int) := by omega
              have h2 := (hR.out (by omega)).two hb (by omega)
              have HRS := Aside0.mk h2.2.2
              have HI : Aside0 (Calls Tryz.prog 134 #[.slice (some ⟨g, 0, none⟩) n c0, .int .i64 a', .int .i64 ((a' : Int) + (bs : Int)), .int .i64 ((a' : Int) + 2 * (bs : Int)), .func (.func 61) #[] #[]] wr fun e w' => e = .returned (.tuple #[]) ∧ ∃ d', SWK flat1 6 w0 g 0 d' w' ∧ Done ltS a' (a' + 2 * bs) d d') := ⟨by
                have := H134.out d _ a' (a' + bs) (a' + 2 * bs) (by rw [hds]) hY.out (by omega) (by omega) hb h2.1 h2.2.1
                push_cast at this; exact this⟩
              clear h2
              go_wp2_with (first | (go_at_call 134; refine (HI.out).mono ?_; rintro e w2 ⟨rfl, d3, hS3, hD3⟩; have X3 := Aside0.mk hS3; have Y3 := Aside0.mk (hP.out.step hD3 hb); have Z3 : Aside0 (a' + 2 * bs < n → Runs ltS d3 bs n (a' + 2 * bs)) := ⟨fun hl => (HRS.out hl).congr fun i hi => hD3.out i (.inr hi)⟩; clear hS3 hD3))
              go_roundw
              case rel => exact ⟨a' + 2 * bs, d3, by push_cast; rfl, by push_cast; rfl, hb, X3, Y3, Z3⟩
              case measure => simp [intOf]; omega
            · have hbi : ¬ ((a' : Int) + 2 * (bs : Int) ≤ (n : Int)) := by omega
              by_cases hm : a' + bs < n
              · have hmi : (a' : Int) + (bs : Int) < (n : Int) := by omega
                have h2 := (hR.out (by omega)).tail hm (by omega)
                have HI : Aside0 (Calls Tryz.prog 134 #[.slice (some ⟨g, 0, none⟩) n c0, .int .i64 a', .int .i64 ((a' : Int) + (bs : Int)), .int .i64 n, .func (.func 61) #[] #[]] wr fun e w' => e = .returned (.tuple #[]) ∧ ∃ d', SWK flat1 6 w0 g 0 d' w' ∧ Done ltS a' n d d') := ⟨by
                  have := H134.out d _ a' (a' + bs) n (by rw [hds]) hY.out (by omega) hm (Nat.le_refl _) h2.1 h2.2
                  push_cast at this; exact this⟩
                clear h2
                go_wp2_with (first | (go_at_call 134; refine (HI.out).mono ?_; rintro e w2 ⟨rfl, d3, hS3, hD3⟩; have X3 := Aside0.mk hS3; have Y3 := Aside0.mk (hP.out.fin hD3 (by omega)); clear hS3 hD3))
                go_roundw
                case rel => exact ⟨bs * 2, d3, by push_cast; rfl, by omega, by omega, X3, by rw [Nat.mul_comm bs 2]; exact Y3⟩
                case measure => simp [intOf]; omega
              · have hmi : ¬ ((a' : Int) + (bs : Int) < (n : Int)) := by omega
                have hsr : SortedIn ltS a' n d := by
                  by_cases hl : a' < n
                  · exact (hR.out hl).one (by omega)
                  · intro i j h1 h2 h3; omega
                have Y3 := Aside0.mk (hP.out.fin (Mv.of_sorted hsr).done (by omega))
                clear hsr
                go_wp2_with fail
                go_roundw
                case rel => exact ⟨bs * 2, d, by push_cast; rfl, by omega, by omega, hY, by rw [Nat.mul_comm bs 2]; exact Y3⟩
                case measure => simp [intOf]; omega
        · have hlti : ¬ ((bs : Int) < (n : Int)) := by omega
          go_wp2_with fail
          go_end0
          exact ⟨rfl, d2, hX.out, by rw [hR.out.1, HN.out], hR.out.2.1, hR.out.2.2.one (by omega)⟩
end Go.Proofs.YtkmcbpkciakmeaaGreatDoor.PA

/- tree.Sort of entries that need not be in order, and the document's Sort: the same order. -/
set_option linter.unusedVariables false
set_option linter.unusedSimpArgs false
namespace Go.Proofs.YtkmcbpkciakmeaaGreatDoor.PA
open Go.Shelf Go.Sort Go.RowKit Go.Proofs.YtkmcbpkciakmeaaGreatDoorW.PrintWords Go.Proofs.YtkmcbpkciakmeaaGreatDoorW.PrintLast Go.Proofs.YtkmcbpkciakmeaaGreatDoorW.PrintMore

/-- The one stable order of the paths. -/
def sortS (xs : List S44) : List S44 := sortBy ltS [] xs
theorem putS_length {α : Type} {lt : α → α → Bool} (x : α) : ∀ l : List α, (putS lt x l).length = l.length + 1
  | [] => rfl
  | y :: r => by
    unfold putS
    split
    · rfl
    · rw [List.length_cons, putS_length x r, List.length_cons]
theorem sortBy_length {α : Type} {lt : α → α → Bool} : ∀ (xs out : List α), (sortBy lt out xs).length = out.length + xs.length
  | [], out => rfl
  | x :: r, out => by rw [sortBy, sortBy_length r, putS_length, List.length_cons]; omega
theorem sortS_length (xs : List S44) : (sortS xs).length = xs.length := by
  unfold sortS; rw [sortBy_length]; simp
theorem sortS_mem {xs : List S44} {x : S44} (h : x ∈ sortS xs) : x ∈ xs := by
  have hk := (sortBy_keeps swo_ltS xs [] List.Pairwise.nil).1 x
  rw [List.nil_append] at hk
  have h2 : x ∈ (sortBy ltS [] xs).filter (eqv ltS x) := List.mem_filter.2 ⟨h, by rw [eqv_iff]; exact ⟨swo_ltS.irrefl x, swo_ltS.irrefl x⟩⟩
  rw [hk] at h2
  exact (List.mem_filter.1 h2).1
theorem sortS_one {xs : List S44} {d : Array S44} (hk : Keeps ltS xs d.toList) (hs : SortedIn ltS 0 d.size d) : d.toList = sortS xs := by
  obtain ⟨k, p⟩ := sortBy_keeps swo_ltS xs [] List.Pairwise.nil
  rw [List.nil_append] at k
  exact sorted_one swo_ltS _ _ p (sortedIn_pairwise hs) fun x => (hk x).trans (k x).symm

theorem flat1_get (x : S44) (i : Nat) (h : i < 6) : (flat1 x)[i]? = some (flat1 x)[i]! := by
  have hl : i < (flat1 x).length := h
  rw [List.getElem?_eq_getElem hl, getElem!_pos (flat1 x) i hl]
theorem holds_flat {W : World} {g : Nat} {xs : List S44} (h : W.heap[g]? = some (.cells (flat44 xs).toArray 44 (0, 0))) : HoldsK flat1 6 W g 0 xs.toArray := by
  intro j hj
  rw [size_flatK, List.size_toArray] at hj
  have hm : j / 6 < xs.length := by omega
  obtain ⟨x, hx⟩ : ∃ x, xs[j / 6]? = some x := ⟨_, List.getElem?_eq_getElem hm⟩
  have hx2 : xs.toArray[j / 6]! = x := by
    rw [getElem!_pos _ _ (by simpa using hm)]
    rw [List.getElem?_eq_getElem hm] at hx
    simpa using Option.some.inj hx
  have e := flat44_at xs (j / 6) x hx
  have hc : (flat44 xs)[j]? = some (flat1 x)[j % 6]! := by
    rw [← flat1_get x (j % 6) (Nat.mod_lt _ (by decide)), ← e, List.getElem?_take, if_pos (Nat.mod_lt _ (by decide)), List.getElem?_drop, show j / 6 * 6 + j % 6 = j by omega]
  refine ⟨?_, blk_frozen h _⟩
  rw [cell_of_row W g _ _ 44 (0, 0) h, List.getElem?_toArray, Nat.zero_add, hc, get_flatK _ _ _ _ (by rw [List.size_toArray]; exact hj), hx2]
  rfl
theorem C_of_holds {W : World} {g : Nat} {d : Array S44} (hn : d.size ≤ 1000) (h : HoldsK flat1 6 W g 0 d) : Kd.C k44 W (some ⟨g, 0, none⟩) d.toList.length d.toList := by
  refine ⟨rfl, by simp; omega, fun _ => ⟨⟨g, 0, none⟩, rfl, fun j p hp => ⟨flat1 p, rfl, k44_mk W p, fun i u hu => ?_⟩⟩⟩
  have ha : (⟨g, 0, none⟩ : Addr).add (j * 6 + i) = ⟨g, 0 + j * 6 + i, none⟩ := by
    unfold Addr.add; simp; omega
  have hi : i < 6 := by
    rcases Nat.lt_or_ge i 6 with h1 | h1
    · exact h1
    · rw [List.getElem?_eq_none (by simpa [flat1] using h1)] at hu; cases hu
  have hj : j < d.size := by
    rcases Nat.lt_or_ge j d.size with h1 | h1
    · exact h1
    · rw [List.getElem?_eq_none (by simpa using h1)] at hp; cases hp
  have hd : d[j]! = p := by
    rw [getElem!_pos d j hj]
    rw [List.getElem?_eq_getElem (by simpa using hj)] at hp
    simpa using Option.some.inj hp
  show W.cell? ((⟨g, 0, none⟩ : Addr).add (j * 6 + i)) = some u
  rw [ha, (HoldsK.cell h hj hi).1, hd]
  rw [flat1_get p i hi] at hu
  exact hu
theorem below_SWK {B : Nat} {w0 W : World} {g o : Nat} {enc : S44 → List Value} {k : Nat} {d : Array S44} (hB : B ≤ g) (hg : g < w0.heap.size) (S : SWK enc k w0 g o d W) : Below B w0 W := by
  obtain ⟨n, os, rfl⟩ := S
  refine ⟨rfl, rfl, rfl, ?_, fun i hi => ?_⟩
  · unfold sortWorldK; rw [size_grow, size_putRowK]; exact Nat.le_add_right _ _
  · show ((w0.heap.modify g _) ++ os)[i]? = w0.heap[i]?
    rw [Array.getElem?_append_left (by rw [Array.size_modify]; omega), Array.getElem?_modify, if_neg (by omega)]

set_option maxHeartbeats 1000000 in
set_option maxRecDepth 100000 in
theorem stableFunc_g (g c0 : Nat) (d0 : Array S44) (w0 W : World) (R : RowK flat1 6 w0 g 0 d0) (S : SWK flat1 6 w0 g 0 d0 W) (hn : d0.size ≤ 1000) :
    Calls Tryz.prog 60 #[.slice (some ⟨g, 0, none⟩) d0.size c0, .func (.func 61) #[] #[]] W fun e w' => e = .returned (.tuple #[]) ∧ ∃ d', SWK flat1 6 w0 g 0 d' w' ∧ d'.size = d0.size ∧ Keeps ltS d0.toList d'.toList ∧ SortedIn ltS 0 d0.size d' := by
  have H := Aside0.mk (stable_g g c0 d0 w0 W R S hn)
  clear R S
  go_enter Tryz.func60, Tryz.ntmps60
  go_wp2_with (first | (go_at_call 95; refine (H.out).mono ?_; rintro e w1 ⟨rfl, hb1⟩))
  go_end0
  exact ⟨rfl, hb1⟩

theorem run_copy_none (w : World) (ty : TypeId) (a : Addr) (A : Option Addr) (c c2 : Nat) : (Builtin.copy_ #[22, 22] ty #[.slice (some a) 0 c, .slice A 0 c2]).run Tryz.prog w = .ok (goInt 0) w := by
  cases hq : Tryz.prog.info? 44 with
  | none => have := size44; rw [hq] at this; cases this
  | some i =>
    have hi : i.size = 6 := by have := size44; rw [hq] at this; simpa using this
    cases A <;> simp [Builtin.copy_, run_underlying under22, Builtin.lenOf, Builtin.firstCells, sizeOf, typeInfo, hq, hi, loadCells, loadCellsFrom, storeCells, Result.andThen]
set_option maxHeartbeats 1000000 in
set_option maxRecDepth 100000 in
theorem copied_none (A0 : Option Addr) (c0 : Nat) (w : World) :
    Calls Tryz.prog 59 #[.slice A0 0 c0] w fun e w' => ∃ g, e = .returned (.slice (some ⟨g, 0, none⟩) 0 0) ∧ Below w.heap.size w w' := by
  obtain ⟨Z, hZ, hmk⟩ := make44 0 (by omega)
  have hcp := fun W a => run_copy_none W 3 a A0 0 c0
  have hmk0 : ∀ W, (Instr.makeSlice 22 (.int .i64 0) (.int .i64 0)).run Tryz.prog W = .ok (.slice (some ⟨W.heap.size, 0, none⟩) 0 0) (W.alloc (.cells Z 44)) := hmk
  clear hmk hZ
  go_enter Tryz.func59, Tryz.ntmps59
  go_wp2
  go_ret
  exact ⟨w.heap.size, rfl, below_alloc (Below.refl _ _) _⟩
set_option maxHeartbeats 1000000 in
set_option maxRecDepth 100000 in
theorem sort_none (A0 : Option Addr) (c0 : Nat) (w : World) :
    Calls Tryz.prog 30 #[.slice A0 0 c0] w fun e w' => ∃ A', e = .returned (.slice A' 0 0) ∧ Below w.heap.size w w' := by
  have H59 := Aside0.mk (copied_none A0 c0 w)
  have H60 : Aside0 (∀ (W : World) (g : Nat), Calls Tryz.prog 60 #[.slice (some ⟨g, 0, none⟩) 0 0, .func (.func 61) #[] #[]] W fun e w' => e = .returned (.tuple #[]) ∧ Below W.heap.size W w') := ⟨fun W g => stableFunc_calls _ _ _ _ (stable_small (some ⟨g, 0, none⟩) 0 [] W ⟨rfl, by simp, fun h => absurd h (by simp)⟩ (Nat.le_refl _) (by simp) (fun i j h1 h2 => absurd h2 (Nat.not_lt_zero _)))⟩
  go_enter Tryz.func30, Tryz.ntmps30
  go_wp2_with (first | (go_at_call 59; refine (H59.out).mono ?_; rintro e w1 ⟨g, rfl, hb1⟩) | (go_at_call 60; refine (H60.out _ _).mono ?_; rintro e w2 ⟨rfl, hb2⟩))
  go_ret
  exact ⟨_, rfl, below_then hb1 hb1.size hb2⟩
set_option maxHeartbeats 1000000 in
set_option maxRecDepth 100000 in
theorem sort_g (A0 : Option Addr) (c0 : Nat) (xs : List S44) (w : World) (hr0 : Kd.C k44 w A0 xs.length xs) (hc0 : xs.length ≤ c0) (hn : xs.length ≤ 1000) :
    Calls Tryz.prog 30 #[.slice A0 xs.length c0] w fun e w' => ∃ A' c', e = .returned (.slice A' (sortS xs).length c') ∧ (sortS xs).length ≤ c' ∧ Kd.C k44 w' A' (sortS xs).length (sortS xs) ∧ Below w.heap.size w w' := by
  by_cases hp : 0 < xs.length
  · have H59 := Aside0.mk (copied_calls A0 c0 xs w hr0 hc0 hn hp)
    have hsz : xs.toArray.size = xs.length := by simp
    have h60 : ∀ (W : World) (g : Nat), W.heap[g]? = some (.cells (flat44 xs).toArray 44 (0, 0)) → w.heap.size ≤ g → Calls Tryz.prog 60 #[.slice (some ⟨g, 0, none⟩) xs.length xs.length, .func (.func 61) #[] #[]] W fun e w' => e = .returned (.tuple #[]) ∧ Kd.C k44 w' (some ⟨g, 0, none⟩) (sortS xs).length (sortS xs) ∧ Below w.heap.size W w' := by
      intro W g hg hwg
      have hH := holds_flat hg
      have R : RowK flat1 6 W g 0 xs.toArray := ⟨fun _ => rfl, fun x v hv => by simp only [flat1, List.mem_cons, List.not_mem_nil, or_false] at hv; rcases hv with rfl | rfl | rfl | rfl | rfl | rfl <;> rfl, hH, blk_lt hg⟩
      have h := stableFunc_g g xs.length xs.toArray W W R (SWK.start hH) (by rw [hsz]; exact hn)
      rw [hsz] at h
      refine h.mono ?_
      rintro e w' ⟨he, d', hS, hs', hk, hso⟩
      have e1 : d'.toList = sortS xs := sortS_one (by simpa using hk) (by rw [hs']; exact hso)
      have hC := C_of_holds (by rw [hs']; exact hn) (hS.holds R.hblk R.hH (by rw [hs', hsz]))
      rw [e1] at hC
      exact ⟨he, hC, below_SWK hwg R.hblk hS⟩
    have H60 := Aside0.mk h60
    have hl := sortS_length xs
    have HL := Aside0.mk hl
    clear hr0 h60 hl
    go_enter Tryz.func30, Tryz.ntmps30
    go_wp2_with (first | (go_at_call 59; refine (H59.out).mono ?_; rintro e w1 ⟨g, rfl, hg, hc, hb1⟩; have HG := Aside0.mk hg; have HCC := Aside0.mk hc; clear hg hc) | (go_at_call 60; refine (H60.out _ _ HCC.out HG.out).mono ?_; rintro e w2 ⟨rfl, hC2, hb2⟩))
    go_ret
    exact ⟨some ⟨g, 0, none⟩, xs.length, by rw [HL.out]; rfl, by rw [HL.out]; exact Nat.le_refl _, hC2, hb1.trans hb2⟩
  · obtain rfl : xs = [] := List.eq_nil_of_length_eq_zero (by omega)
    refine (sort_none A0 c0 w).mono ?_
    rintro e w' ⟨A', rfl, hb⟩
    have e0 : sortS [] = [] := rfl
    rw [e0]
    exact ⟨A', 0, rfl, Nat.le_refl _, ⟨rfl, by simp, fun h => absurd h (Nat.not_lt_zero _)⟩, hb⟩

/-! the document's -/
theorem srt_l1 (xs : List S44) (i : Nat) (x : S44) (hx : xs.getD i z44 = x) (hi : i < xs.length) (hn : xs.length ≤ 1000) (out : List S44) (ho : out.length ≤ 1000) (r : List S44) : ∀ (d j : Nat) (nx : List S44) (b : Bool), j + d = out.length → nx.length ≤ j + b.toNat →
    (∃ K, ∀ k, K ≤ k → wainloadref16_Sort.l0 k xs (if b = true then nx ++ out.drop j else nx ++ putS ltS x (out.drop j)) ((i + 1 : Nat) : Int) = some r) →
    ∃ K, ∀ k, K ≤ k → wainloadref16_Sort.l1 k xs out (i : Int) nx b (j : Int) = some r
  | 0, j, nx, b, hj, hl, hr => by
    have hbn : b.toNat ≤ 1 := by cases b <;> decide
    obtain ⟨K, hK⟩ := hr
    refine ⟨K + 1, fun k hk => ?_⟩
    obtain ⟨k, rfl⟩ : ∃ k', k = k' + 1 := ⟨k - 1, by omega⟩
    have hk2 := hK k (by omega)
    rw [List.drop_of_length_le (by omega)] at hk2
    have hw : wrap64 ((i : Int) + 1) = ((i + 1 : Nat) : Int) := by rw [w_in _ (by omega)]; push_cast; rfl
    rw [wainloadref16_Sort.l1, if_neg (by omega)]
    cases b with
    | true =>
      rw [if_pos rfl, hw]
      rw [if_pos rfl, List.append_nil] at hk2
      exact hk2
    | false =>
      rw [if_neg (by decide), if_pos (by omega), if_pos (by omega), if_pos (by omega), hw, rd44, hx]
      rw [if_neg (by decide)] at hk2
      exact hk2
  | d + 1, j, nx, b, hj, hl, hr => by
    have hlt : j < out.length := by omega
    obtain ⟨y, hy⟩ : ∃ y, out.getD j z44 = y := ⟨_, rfl⟩
    rw [drop_cons out j z44 hlt, hy] at hr
    have hw : wrap64 ((j : Int) + 1) = ((j + 1 : Nat) : Int) := by rw [w_in _ (by omega)]; push_cast; rfl
    cases b with
    | true =>
      have hl : nx.length ≤ j + 1 := hl
      obtain ⟨K, hK⟩ := srt_l1 xs i x hx hi hn out ho r d (j + 1) (nx ++ [y]) true (by omega) (by rw [List.length_append]; show nx.length + 1 ≤ j + 1 + 1; omega) (by
        obtain ⟨K, hK⟩ := hr
        exact ⟨K, fun k hk => by have := hK k hk; rw [if_pos rfl] at this ⊢; simpa using this⟩)
      refine ⟨K + 1, fun k hk => ?_⟩
      obtain ⟨k, rfl⟩ : ∃ k', k = k' + 1 := ⟨k - 1, by omega⟩
      rw [wainloadref16_Sort.l1, if_pos (by omega), if_pos rfl, if_pos (by omega), if_pos (by omega), rd44, hy, hw]
      exact hK k (by omega)
    | false =>
      have hl : nx.length ≤ j := hl
      by_cases hc : ltS x y = true
      · obtain ⟨K, hK⟩ := srt_l1 xs i x hx hi hn out ho r d (j + 1) (nx ++ [x] ++ [y]) true (by omega) (by rw [List.length_append, List.length_append]; show nx.length + 1 + 1 ≤ j + 1 + 1; omega) (by
          obtain ⟨K, hK⟩ := hr
          refine ⟨K, fun k hk => ?_⟩
          have := hK k hk
          rw [if_neg (by decide), putS, if_pos hc] at this
          rw [if_pos rfl]
          simpa using this)
        refine ⟨K + 1, fun k hk => ?_⟩
        obtain ⟨k, rfl⟩ : ∃ k', k = k' + 1 := ⟨k - 1, by omega⟩
        rw [wainloadref16_Sort.l1, if_pos (by omega), if_neg (by decide), if_pos (by omega), if_pos (by omega), if_pos (by omega), rd44, rd44, hx, hy, if_pos (ltS_iff.1 hc), if_pos (by omega), Option.bind_some, if_pos (by rw [List.length_append]; simp; omega), hw]
        exact hK k (by omega)
      · obtain ⟨K, hK⟩ := srt_l1 xs i x hx hi hn out ho r d (j + 1) (nx ++ [y]) false (by omega) (by rw [List.length_append]; show nx.length + 1 ≤ j + 1 + 0; omega) (by
          obtain ⟨K, hK⟩ := hr
          refine ⟨K, fun k hk => ?_⟩
          have := hK k hk
          rw [if_neg (by decide), putS, if_neg hc] at this
          rw [if_neg (by decide)]
          simpa using this)
        refine ⟨K + 1, fun k hk => ?_⟩
        obtain ⟨k, rfl⟩ : ∃ k', k = k' + 1 := ⟨k - 1, by omega⟩
        rw [wainloadref16_Sort.l1, if_pos (by omega), if_neg (by decide), if_pos (by omega), if_pos (by omega), if_pos (by omega), rd44, rd44, hx, hy, if_neg (fun h => hc (ltS_iff.2 h)), if_pos (by omega), hw]
        exact hK k (by omega)
theorem srt_l0 (xs : List S44) (hn : xs.length ≤ 1000) : ∀ (d i : Nat) (out : List S44), i + d = xs.length → out.length = i → ∃ K, ∀ k, K ≤ k → wainloadref16_Sort.l0 k xs out (i : Int) = some (sortBy ltS out (xs.drop i))
  | 0, i, out, hi, ho => by
    refine ⟨1, fun k hk => ?_⟩
    obtain ⟨k, rfl⟩ : ∃ k', k = k' + 1 := ⟨k - 1, by omega⟩
    rw [wainloadref16_Sort.l0, if_neg (by omega), List.drop_of_length_le (by omega)]; rfl
  | d + 1, i, out, hi, ho => by
    have hlt : i < xs.length := by omega
    obtain ⟨x, hx⟩ : ∃ x, xs.getD i z44 = x := ⟨_, rfl⟩
    have ih := srt_l0 xs hn d (i + 1) (putS ltS x out) (by omega) (by rw [putS_length, ho])
    obtain ⟨K, hK⟩ := srt_l1 xs i x hx hlt hn out (by omega) _ out.length 0 [] false (by omega) (by simp) (by
      obtain ⟨K, hK⟩ := ih
      refine ⟨K, fun k hk => ?_⟩
      have := hK k hk
      rw [if_neg (by decide)]
      simpa using this)
    refine ⟨K + 1, fun k hk => ?_⟩
    obtain ⟨k, rfl⟩ : ∃ k', k = k' + 1 := ⟨k - 1, by omega⟩
    rw [wainloadref16_Sort.l0, if_pos (by omega), drop_cons xs i z44 hlt, hx, sortBy]
    exact hK k (by omega)
theorem ref_sort_calls (A0 : Option Addr) (c0 : Nat) (xs : List S44) (w : World) (hr0 : Kd.C k44 w A0 xs.length xs) (hc0 : xs.length ≤ c0) (hn : xs.length ≤ 1000) :
    Calls Tryz.prog 20 #[.slice A0 xs.length c0] w fun e w' => ∃ A c, e = .returned (.slice A (sortS xs).length c) ∧ (sortS xs).length ≤ c ∧ Kd.C k44 w' A (sortS xs).length (sortS xs) ∧ Below w.heap.size w w' := by
  obtain ⟨K, hK⟩ := srt_l0 xs hn xs.length 0 [] (by omega) rfl
  refine (wainloadref16_Sort.calls K A0 c0 xs (sortS xs) w hr0 hc0 (hK K (Nat.le_refl _))).mono ?_
  rintro e w' ⟨v, rfl, hR, hb⟩
  obtain ⟨A, c, rfl, hle, hC⟩ := Kd.R_reads hR
  exact ⟨A, c, rfl, hle, hC, hb⟩
end Go.Proofs.YtkmcbpkciakmeaaGreatDoor.PA
