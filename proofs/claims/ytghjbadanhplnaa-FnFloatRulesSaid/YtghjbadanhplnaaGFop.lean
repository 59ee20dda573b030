/- What FloatOp of the program comes to. No condition beyond those of the theorems. -/
import Derived.Test.YtghjbadanhplnaaGFlo
import Derived.Test.YtghjbadanhplnaaFloZ
import Derived.Laws.FloatArith
namespace Go.Proofs.Ytghjbadanhplnaa.PF
open Go.RowKit Go.Proofs.YtghjbadanhplnaaW.PrintWords Go.Proofs.YtghjbadanhplnaaW.PrintLast Go.Proofs.Ytghjbadanhplnaa.Ord
set_option linter.unusedVariables false
set_option linter.unusedSimpArgs false

def absW (v : Nat) : Nat := (Go.bits .andNot .u64 (v : Int) 9223372036854775808).toNat
def bigQ (v : Nat) : Bool := FloatKind.f64.format.order (absW v) 9218868437227405311 == some .gt
def nanQ (v : Nat) : Bool := FloatKind.f64.format.order v v != some .eq
def flo (v : Nat) : Nat := FloatKind.f64.encode ((FloatKind.f64.decode v).integral .down)
def nanLike (v : Nat) : Prop := v < 18446744073709551616 ∧ infR < rungOf v
def FRes (o : Option Nat) (v : Nat) : Prop := match o with | some r => v = r | none => nanLike v
def floorV (o : Option Nat) : Option Nat := match o with | none => none | some q => if bigQ q = true then some q else if nanQ q = true then some q else floatBits .add .f64 (flo q) 0
def zV (op : Int) (x y : Nat) : Option Nat :=
  if op = 1 then floatBits .add .f64 x y else if op = 2 then floatBits .sub .f64 x y else if op = 3 then floatBits .mul .f64 x y else if op = 4 then floatBits .quo .f64 x y else
    if op = 5 then floorV (floatBits .quo .f64 x y) else (floorV (floatBits .quo .f64 x y)).bind fun f => (floatBits .mul .f64 y f).bind fun p => floatBits .sub .f64 x p
def canonW (v : Nat) : Int := if nanQ v = true then 9221120237041090560 else (v : Int)
def canonZ (o : Option Nat) : Int := match o with | some r => canonW r | none => 9221120237041090560
def impl_FloatOp.f (a0 a1 a2 : Int) : Option (Int × Int) :=
  if a0 < 1 ∨ 6 < a0 then some (0, 1) else if 4 ≤ a0 ∧ (FloatKind.f64.format.order a2.toNat 0 == some .eq) = true then some (0, 2) else some (canonZ (zV a0 a1.toNat a2.toNat), 0)

theorem nan_nanQ {v : Nat} (h : nanLike v) : nanQ v = true := by
  unfold nanQ
  rw [f64_double, order_nan v v (Or.inl h.2)]
  rfl
theorem nan_bigQ {v : Nat} (h : nanLike v) : bigQ v = false := by
  unfold bigQ
  have h1 := h.1
  have h2 := abs_some (v : Int) (by omega) (by omega)
  have h3 : rungOf (rungOf v) = rungOf v := by unfold rungOf; omega
  have h4 : absW v = rungOf v := by
    unfold absW
    rw [h2, Int.toNat_natCast, Int.toNat_natCast]
  rw [f64_double, h4, order_nan _ _ (Or.inl (by rw [h3]; exact h.2))]
  rfl
def nanW (w : World) (x y : Nat) : Nat := (Question.nanBits .f64 x y).cut (w.tape w.drawn (.nanBits .f64 x y))
theorem nanW_like (w : World) (x y : Nat) : nanLike (nanW w x y) := by
  have key : ∀ t : Nat, nanLike ((t % 2) * 9223372036854775808 + 9218868437227405312 + 1 + (t / 2) % 4503599627370495) := by
    intro t
    have ha := Nat.mod_lt t (show 0 < 2 by decide)
    have hb := Nat.mod_lt (t / 2) (show 0 < 4503599627370495 by decide)
    generalize t % 2 = a at *
    generalize (t / 2) % 4503599627370495 = b at *
    unfold nanLike infR rungOf
    omega
  exact key _
theorem arith_none (op : BinOp) (t : TypeId) (x y : Nat) (w : World) (hop : op = .add ∨ op = .sub ∨ op = .mul ∨ op = .quo) (h : floatBits op .f64 x y = none) : (binOp op t (.float .f64 x) (.float .f64 y)).run Try.prog w = .ok (.float .f64 (nanW w x y)) w.drew := by
  unfold floatBits at h
  rcases hop with rfl | rfl | rfl | rfl
  all_goals
    simp only at h
    simp [binOp, Op.floatArith, h, Question.forced]
    rfl
theorem call43 (v : Nat) (w : World) : (callFunc 43 #[.float .f64 v]).run Try.prog w = .ok (.value (.int .u64 (v : Int))) w := by
  rw [run_callFunc_extern Try.func43 (by kernel_rfl) (by kernel_rfl) (by kernel_rfl) (e := Extern.MathFloatBits.float64bits) (by kernel_rfl)]
  rfl
def tiD (x : Nat) (d : Ieee.Datum) : Sem Value :=
  match d with
  | .nan s t =>
    if FloatKind.f64.format.quiet t = t then pure (.float .f64 x) else do
    let kept ← choose (.extern "math.Floor,Ceil,Trunc,RoundToEven.signallingNaN kept" 2)
    pure (.float .f64 (if kept == 1 then x else FloatKind.f64.encode (.nan s (FloatKind.f64.format.quiet t))))
  | d => pure (.float .f64 (FloatKind.f64.encode (d.integral .down)))
theorem ti_eq (n : String) (v : Nat) : Extern.MathFloor.toIntegral n .down #[.float .f64 v] = tiD v (FloatKind.f64.decode v) := by
  unfold tiD
  show (match FloatKind.f64.decode v with | .nan s t => _ | d => _) = _
  rfl
theorem call41 (v : Nat) (w : World) (h : nanQ v = false) : (callFunc 41 #[.float .f64 v]).run Try.prog w = .ok (.value (.float .f64 (flo v))) w := by
  rw [run_callFunc_extern Try.func41 (by kernel_rfl) (by kernel_rfl) (by kernel_rfl) (e := Extern.MathFloor.toIntegral "math.archFloor" .down) (by kernel_rfl)]
  rw [ti_eq]
  unfold flo
  cases hd : FloatKind.f64.decode v with
  | nan s t =>
    exfalso
    unfold nanQ Ieee.Format.order at h
    have hd2 : FloatKind.f64.format.read v = .nan s t := hd
    rw [hd2] at h
    simp [Ieee.Datum.order] at h
  | infinity s => rfl
  | number s m e => rfl
theorem run_store_float {P : Program} {w : World} {a : Addr} {m : Mode} (k : FloatKind) (b : Nat) : (store a (.float k b) m).run P w = stored P w a (.float k b) m := run_store P w a _ m rfl
attribute [local go_sem] call16 call43 call41 run_store_float

set_option maxHeartbeats 4000000 in
set_option maxRecDepth 100000 in
theorem abs_calls (v : Nat) (w : World) : Calls Try.prog 40 #[.float .f64 v] w fun e w' => e = .returned (.float .f64 (absW v)) ∧ w' = w := by
  go_enter Try.func40, Try.ntmps40
  go_wp2
  go_ret
  exact ⟨rfl, rfl⟩
set_option maxHeartbeats 4000000 in
set_option maxRecDepth 100000 in
theorem isInf_calls (v : Nat) (w : World) : Calls Try.prog 23 #[.float .f64 v, .int .i64 0] w fun e w' => e = .returned (.bool (bigQ v)) ∧ w' = w := by
  go_enter Try.func23, Try.ntmps23
  go_wp2_with fail
  refine (abs_calls v _).mono ?_
  rintro e w1 ⟨rfl, rfl⟩
  go_wp2
  go_ret
  exact ⟨rfl, rfl⟩
set_option maxHeartbeats 4000000 in
set_option maxRecDepth 100000 in
theorem floor_calls (v : Nat) (w : World) (h : nanQ v = false) : Calls Try.prog 24 #[.float .f64 v] w fun e w' => e = .returned (.float .f64 (flo v)) ∧ w' = w := by
  go_enter Try.func24, Try.ntmps24
  go_wp2
  go_ret
  exact ⟨rfl, rfl⟩
set_option maxHeartbeats 4000000 in
set_option maxRecDepth 100000 in
theorem ybits_calls (v : Nat) (w : World) : Calls Try.prog 25 #[.float .f64 v] w fun e w' => e = .returned (.int .u64 (canonW v)) ∧ w' = w := by
  unfold canonW nanQ
  cases e1 : (FloatKind.f64.format.order v v != some .eq) with
  | true =>
    rw [if_pos rfl]
    go_enter Try.func25, Try.ntmps25
    go_wp2
    go_ret
    exact ⟨rfl, rfl⟩
  | false =>
    rw [if_neg (by decide)]
    go_enter Try.func25, Try.ntmps25
    go_wp2
    go_ret
    exact ⟨rfl, rfl⟩
set_option maxHeartbeats 4000000 in
set_option maxRecDepth 100000 in
theorem fl_calls (x y : Nat) (bx by_ : Nat) (w : World) (hx : w.cell? ⟨bx, 0, none⟩ = some (.float .f64 x)) (hy : w.cell? ⟨by_, 0, none⟩ = some (.float .f64 y)) :
    Calls Try.prog 22 #[.pointer (some ⟨bx, 0, none⟩), .pointer (some ⟨by_, 0, none⟩)] w fun e w' => ∃ v, e = .returned (.float .f64 v) ∧ FRes (floorV (floatBits .quo .f64 x y)) v ∧ Below w.heap.size w w' := by
  cases hq : floatBits .quo .f64 x y with
  | none =>
    have hop := fun t w => arith_none .quo t x y w (by simp) hq
    have hn := nanW_like w x y
    generalize hv : nanW w x y = v at *
    have n1 : (FloatKind.f64.format.order v v != some .eq) = true := nan_nanQ hn
    have n2 := nan_bigQ hn
    have HN := Aside0.mk hn
    clear hn hq
    go_enter Try.func22, Try.ntmps22
    go_wp2_with fail
    refine (isInf_calls _ _).mono ?_
    rintro e w1 ⟨rfl, rfl⟩
    rw [n2]
    go_wp2
    go_ret
    exact ⟨v, rfl, HN.out, below_drew1 (Below.refl _ _)⟩
  | some q =>
    have hop := fun t w => run_float_arith (P := Try.prog) w .quo t .f64 x y q hq
    show Calls _ _ _ _ fun e w' => ∃ v, e = .returned (.float .f64 v) ∧ FRes (if bigQ q = true then some q else if nanQ q = true then some q else floatBits .add .f64 (flo q) 0) v ∧ Below w.heap.size w w'
    cases hb : bigQ q with
    | true =>
      rw [if_pos rfl]
      go_enter Try.func22, Try.ntmps22
      go_wp2_with fail
      refine (isInf_calls _ _).mono ?_
      rintro e w1 ⟨rfl, rfl⟩
      rw [hb]
      go_wp2
      go_ret
      exact ⟨q, rfl, rfl, Below.refl _ _⟩
    | false =>
      rw [if_neg (by decide)]
      cases hn : nanQ q with
      | true =>
        rw [if_pos rfl]
        have n1 : (FloatKind.f64.format.order q q != some .eq) = true := hn
        go_enter Try.func22, Try.ntmps22
        go_wp2_with fail
        refine (isInf_calls _ _).mono ?_
        rintro e w1 ⟨rfl, rfl⟩
        rw [hb]
        go_wp2
        go_ret
        exact ⟨q, rfl, rfl, Below.refl _ _⟩
      | false =>
        rw [if_neg (by decide)]
        have n1 : (FloatKind.f64.format.order q q != some .eq) = false := hn
        cases hf : floatBits .add .f64 (flo q) 0 with
        | none =>
          have hop2 := fun t w => arith_none .add t (flo q) 0 w (by simp) hf
          go_enter Try.func22, Try.ntmps22
          go_wp2_with fail
          refine (isInf_calls _ _).mono ?_
          rintro e w1 ⟨rfl, rfl⟩
          rw [hb]
          go_wp2_with fail
          refine (floor_calls _ _ hn).mono ?_
          rintro e w2 ⟨rfl, rfl⟩
          go_wp2
          go_ret
          exact ⟨_, rfl, nanW_like _ _ _, below_drew1 (Below.refl _ _)⟩
        | some f =>
          have hop2 := fun t w => run_float_arith (P := Try.prog) w .add t .f64 (flo q) 0 f hf
          go_enter Try.func22, Try.ntmps22
          go_wp2_with fail
          refine (isInf_calls _ _).mono ?_
          rintro e w1 ⟨rfl, rfl⟩
          rw [hb]
          go_wp2_with fail
          refine (floor_calls _ _ hn).mono ?_
          rintro e w2 ⟨rfl, rfl⟩
          go_wp2
          go_ret
          exact ⟨f, rfl, rfl, Below.refl _ _⟩
theorem nan_read {v : Nat} (h : nanLike v) : ∃ s t, FloatKind.f64.format.read v = .nan s t := by
  have hi : infR = 9218868437227405312 := rfl
  have h2 := h.2
  exact ⟨_, _, (read_eq v).trans (by rw [if_neg (by omega), if_neg (by omega), if_neg (by omega)])⟩
theorem mul_nan (y : Nat) {v : Nat} (h : nanLike v) : floatBits .mul .f64 y v = none := by
  obtain ⟨s, t, e⟩ := nan_read h
  show (((FloatKind.f64.format.read y).product (FloatKind.f64.format.read v)).map FloatKind.f64.format.write) = none
  rw [e]
  cases FloatKind.f64.format.read y <;> rfl
theorem sub_nan (x : Nat) {v : Nat} (h : nanLike v) : floatBits .sub .f64 x v = none := by
  obtain ⟨s, t, e⟩ := nan_read h
  show (((FloatKind.f64.format.read x).sum (FloatKind.f64.format.read v).opposite).map FloatKind.f64.format.write) = none
  rw [e]
  cases FloatKind.f64.format.read x <;> rfl
def arV (op : BinOp) (w : World) (x y : Nat) : Nat := match floatBits op .f64 x y with | some r => r | none => nanW w x y
def arW (op : BinOp) (w : World) (x y : Nat) : World := match floatBits op .f64 x y with | some _ => w | none => w.drew
theorem ar_run (op : BinOp) (t : TypeId) (x y : Nat) (w : World) (hop : op = .add ∨ op = .sub ∨ op = .mul ∨ op = .quo) : (binOp op t (.float .f64 x) (.float .f64 y)).run Try.prog w = .ok (.float .f64 (arV op w x y)) (arW op w x y) := by
  unfold arV arW
  cases h : floatBits op .f64 x y with
  | none => exact arith_none op t x y w hop h
  | some r => exact run_float_arith (P := Try.prog) w op t .f64 x y r h
theorem ar_res (op : BinOp) (w : World) (x y : Nat) : FRes (floatBits op .f64 x y) (arV op w x y) := by
  unfold arV
  cases h : floatBits op .f64 x y with
  | none => exact nanW_like w x y
  | some r => rfl
theorem ar_cell (op : BinOp) (w : World) (x y : Nat) (a : Addr) : (arW op w x y).cell? a = w.cell? a := by
  unfold arW
  cases h : floatBits op .f64 x y <;> rfl
theorem ar_below (op : BinOp) {u w : World} (x y : Nat) {B : Nat} (h : Below B u w) : Below B u (arW op w x y) := by
  unfold arW
  cases floatBits op .f64 x y with
  | none => exact below_drew1 h
  | some r => exact h
theorem mod_res (x y : Nat) {o : Option Nat} {v0 v1 v2 : Nat} (h0 : FRes o v0) (h1 : FRes (floatBits .mul .f64 y v0) v1) (h2 : FRes (floatBits .sub .f64 x v1) v2) : FRes (o.bind fun f => (floatBits .mul .f64 y f).bind fun p => floatBits .sub .f64 x p) v2 := by
  cases o with
  | none =>
    rw [mul_nan y h0] at h1
    rw [sub_nan x h1] at h2
    exact h2
  | some f =>
    obtain rfl : v0 = f := h0
    rw [Option.bind_some]
    cases hm : floatBits .mul .f64 y v0 with
    | none =>
      rw [hm] at h1
      rw [sub_nan x h1] at h2
      exact h2
    | some p =>
      rw [hm] at h1
      obtain rfl : v1 = p := h1
      exact h2
theorem canon_res {o : Option Nat} {v : Nat} (h : FRes o v) : canonW v = canonZ o := by
  cases o with
  | some r => rw [show v = r from h]; rfl
  | none =>
    unfold canonW canonZ
    rw [nan_nanQ h, if_pos rfl]
theorem boxes (w : World) (x y : Nat) :
    (((w.alloc (.cells #[.float .f64 x] 38)).alloc (.cells #[.float .f64 y] 38)).cell? ⟨w.heap.size, 0, none⟩ = some (.float .f64 x)) ∧ (((w.alloc (.cells #[.float .f64 x] 38)).alloc (.cells #[.float .f64 y] 38)).cell? ⟨w.heap.size + 1, 0, none⟩ = some (.float .f64 y)) ∧
    Aside0 (Below w.heap.size w ((w.alloc (.cells #[.float .f64 x] 38)).alloc (.cells #[.float .f64 y] 38))) := by
  have b1 := blk_alloc (blk_new w (.cells #[.float .f64 x] 38)) (.cells #[.float .f64 y] 38)
  have b2 := blk_new (w.alloc (.cells #[.float .f64 x] 38)) (.cells #[.float .f64 y] 38)
  have hs : (w.alloc (.cells #[.float .f64 x] 38)).heap.size = w.heap.size + 1 := by show (w.heap.push _).size = _; rw [Array.size_push]
  rw [hs] at b2
  exact ⟨(blk_cell b1 0).trans rfl, (blk_cell b2 0).trans rfl, ⟨below_alloc (below_alloc (Below.refl _ _) _) _⟩⟩
set_option maxHeartbeats 8000000 in
set_option maxRecDepth 100000 in
theorem impl_FloatOp.calls (a0 a1 a2 : Int) (r1 r2 : Int) (w : World) (h : impl_FloatOp.f a0 a1 a2 = some (r1, r2)) :
    Calls Try.prog 9 #[.int .i64 a0, .int .u64 a1, .int .u64 a2] w fun e w' => e = .returned (.tuple #[.int .u64 r1, .int .i64 r2]) ∧ Below w.heap.size w w' := by
  obtain ⟨x, hx⟩ : ∃ x, a1.toNat = x := ⟨_, rfl⟩
  obtain ⟨y, hy⟩ : ∃ y, a2.toNat = y := ⟨_, rfl⟩
  unfold impl_FloatOp.f at h
  rw [hx, hy] at h
  obtain ⟨g5, g6, HB⟩ := boxes w x y
  by_cases c1 : a0 < 1
  · rw [if_pos (Or.inl c1)] at h
    injection h with h
    injection h with h1 h2
    subst h1 h2
    go_enter Try.func9, Try.ntmps9
    go_wp2
    go_ret2
    exact ⟨rfl, HB.out⟩
  by_cases c2 : 6 < a0
  · rw [if_pos (Or.inr c2)] at h
    injection h with h
    injection h with h1 h2
    subst h1 h2
    go_enter Try.func9, Try.ntmps9
    go_wp2
    go_ret2
    exact ⟨rfl, HB.out⟩
  rw [if_neg (by omega)] at h
  by_cases c3 : 4 ≤ a0 ∧ (FloatKind.f64.format.order y 0 == some .eq) = true
  · rw [if_pos c3] at h
    injection h with h
    injection h with h1 h2
    subst h1 h2
    have e1 := c3.2
    have e2 := c3.1
    go_enter Try.func9, Try.ntmps9
    go_wp2
    go_ret2
    exact ⟨rfl, HB.out⟩
  rw [if_neg c3] at h
  injection h with h
  injection h with h1 h2
  subst h1 h2
  have hcase : a0 = 1 ∨ a0 = 2 ∨ a0 = 3 ∨ a0 = 4 ∨ a0 = 5 ∨ a0 = 6 := by omega
  rcases hcase with rfl | rfl | rfl | rfl | rfl | rfl
  · show Calls _ _ _ _ fun e w' => e = .returned (.tuple #[.int .u64 (canonZ (floatBits .add .f64 x y)), .int .i64 0]) ∧ Below w.heap.size w w'
    cases hq : floatBits .add .f64 x y with
    | none =>
      have hop := fun t w => arith_none .add t x y w (by simp) hq
      clear hq
      go_enter Try.func9, Try.ntmps9
      go_wp2_with fail
      refine (ybits_calls _ _).mono ?_
      rintro e w1 ⟨rfl, rfl⟩
      rw [canon_res (o := none) (nanW_like _ _ _)]
      go_wp2
      go_ret2
      exact ⟨rfl, below_drew1 HB.out⟩
    | some q =>
      have hop := fun t w => run_float_arith (P := Try.prog) w .add t .f64 x y q hq
      clear hq
      go_enter Try.func9, Try.ntmps9
      go_wp2_with fail
      refine (ybits_calls _ _).mono ?_
      rintro e w1 ⟨rfl, rfl⟩
      go_wp2
      go_ret2
      exact ⟨rfl, HB.out⟩
  · show Calls _ _ _ _ fun e w' => e = .returned (.tuple #[.int .u64 (canonZ (floatBits .sub .f64 x y)), .int .i64 0]) ∧ Below w.heap.size w w'
    cases hq : floatBits .sub .f64 x y with
    | none =>
      have hop := fun t w => arith_none .sub t x y w (by simp) hq
      clear hq
      go_enter Try.func9, Try.ntmps9
      go_wp2_with fail
      refine (ybits_calls _ _).mono ?_
      rintro e w1 ⟨rfl, rfl⟩
      rw [canon_res (o := none) (nanW_like _ _ _)]
      go_wp2
      go_ret2
      exact ⟨rfl, below_drew1 HB.out⟩
    | some q =>
      have hop := fun t w => run_float_arith (P := Try.prog) w .sub t .f64 x y q hq
      clear hq
      go_enter Try.func9, Try.ntmps9
      go_wp2_with fail
      refine (ybits_calls _ _).mono ?_
      rintro e w1 ⟨rfl, rfl⟩
      go_wp2
      go_ret2
      exact ⟨rfl, HB.out⟩
  · show Calls _ _ _ _ fun e w' => e = .returned (.tuple #[.int .u64 (canonZ (floatBits .mul .f64 x y)), .int .i64 0]) ∧ Below w.heap.size w w'
    cases hq : floatBits .mul .f64 x y with
    | none =>
      have hop := fun t w => arith_none .mul t x y w (by simp) hq
      clear hq
      go_enter Try.func9, Try.ntmps9
      go_wp2_with fail
      refine (ybits_calls _ _).mono ?_
      rintro e w1 ⟨rfl, rfl⟩
      rw [canon_res (o := none) (nanW_like _ _ _)]
      go_wp2
      go_ret2
      exact ⟨rfl, below_drew1 HB.out⟩
    | some q =>
      have hop := fun t w => run_float_arith (P := Try.prog) w .mul t .f64 x y q hq
      clear hq
      go_enter Try.func9, Try.ntmps9
      go_wp2_with fail
      refine (ybits_calls _ _).mono ?_
      rintro e w1 ⟨rfl, rfl⟩
      go_wp2
      go_ret2
      exact ⟨rfl, HB.out⟩
  · show Calls _ _ _ _ fun e w' => e = .returned (.tuple #[.int .u64 (canonZ (floatBits .quo .f64 x y)), .int .i64 0]) ∧ Below w.heap.size w w'
    have e1 : (FloatKind.f64.format.order y 0 == some .eq) = false := Bool.eq_false_iff.2 (fun hh => c3 ⟨by decide, hh⟩)
    cases hq : floatBits .quo .f64 x y with
    | none =>
      have hop := fun t w => arith_none .quo t x y w (by simp) hq
      clear hq
      go_enter Try.func9, Try.ntmps9
      go_wp2_with fail
      refine (ybits_calls _ _).mono ?_
      rintro e w1 ⟨rfl, rfl⟩
      rw [canon_res (o := none) (nanW_like _ _ _)]
      go_wp2
      go_ret2
      exact ⟨rfl, below_drew1 HB.out⟩
    | some q =>
      have hop := fun t w => run_float_arith (P := Try.prog) w .quo t .f64 x y q hq
      clear hq
      go_enter Try.func9, Try.ntmps9
      go_wp2_with fail
      refine (ybits_calls _ _).mono ?_
      rintro e w1 ⟨rfl, rfl⟩
      go_wp2
      go_ret2
      exact ⟨rfl, HB.out⟩
  · have e1 : (FloatKind.f64.format.order y 0 == some .eq) = false := Bool.eq_false_iff.2 (fun hh => c3 ⟨by decide, hh⟩)
    show Calls _ _ _ _ fun e w' => e = .returned (.tuple #[.int .u64 (canonZ (floorV (floatBits .quo .f64 x y))), .int .i64 0]) ∧ Below w.heap.size w w'
    go_enter Try.func9, Try.ntmps9
    go_wp2_with fail
    refine (fl_calls x y _ _ _ ?_ ?_).mono ?_
    · exact g5
    · exact g6
    rintro e w1 ⟨v, rfl, hv, hb⟩
    go_wp2_with fail
    refine (ybits_calls _ _).mono ?_
    rintro e w2 ⟨rfl, rfl⟩
    rw [canon_res hv]
    go_wp2
    go_ret2
    exact ⟨rfl, below_step HB.out hb⟩
  · have e1 : (FloatKind.f64.format.order y 0 == some .eq) = false := Bool.eq_false_iff.2 (fun hh => c3 ⟨by decide, hh⟩)
    show Calls _ _ _ _ fun e w' => e = .returned (.tuple #[.int .u64 (canonZ ((floorV (floatBits .quo .f64 x y)).bind fun f => (floatBits .mul .f64 y f).bind fun p => floatBits .sub .f64 x p)), .int .i64 0]) ∧ Below w.heap.size w w'
    have g7 := boxes w x y
    clear g5 g6
    go_enter Try.func9, Try.ntmps9
    go_wp2_with fail
    go_cut [12] (fun s12 wx => ∃ v0 v1, s12 = .float .f64 v1 ∧ Aside0 (FRes (floorV (floatBits .quo .f64 x y)) v0) ∧ Aside0 (FRes (floatBits .mul .f64 y v0) v1) ∧ wx.cell? ⟨w.heap.size, 0, none⟩ = some (.float .f64 x) ∧ Aside0 (Below w.heap.size w wx))
    case first =>
      obtain ⟨g5, g6, _⟩ := g7
      have hopm : ∀ v t w, (binOp .mul t (.float .f64 y) (.float .f64 v)).run Try.prog w = .ok (.float .f64 (arV .mul w y v)) (arW .mul w y v) := fun v t w => ar_run .mul t y v w (by simp)
      go_region_with (refine (fl_calls x y _ _ _ ?_ ?_).mono ?_; (exact g5); (exact g6); rintro e w' ⟨v, rfl, hv, hb⟩; have g9 := pw_cell_below hb g6; have g10 := pw_cell_below hb g5)
      all_goals go_wp2_with fail
      all_goals (try simp only [Act.put, List.setIfInBounds_toArray, List.set_cons_zero, List.set_cons_succ])
      all_goals go_meet
      all_goals exact ⟨_, _, rfl, ⟨by assumption⟩, ⟨ar_res .mul _ _ _⟩, by rw [ar_cell]; assumption, ⟨ar_below _ _ _ (below_step (below_drew1 HB.out) (by assumption))⟩⟩
    case rest =>
      obtain ⟨v0, v1, rfl, hv0, hv1, g8, HB2⟩ := hcut
      have hops : ∀ t w, (binOp .sub t (.float .f64 x) (.float .f64 v1)).run Try.prog w = .ok (.float .f64 (arV .sub w x v1)) (arW .sub w x v1) := fun t w => ar_run .sub t x v1 w (by simp)
      go_wp2_with fail
      refine (ybits_calls _ _).mono ?_
      rintro e w2 ⟨rfl, rfl⟩
      rw [canon_res (mod_res x y hv0.out hv1.out (ar_res .sub _ _ _))]
      go_wp2
      go_ret2
      exact ⟨rfl, ar_below _ _ _ HB2.out⟩
end Go.Proofs.Ytghjbadanhplnaa.PF
