/- What the program's SliceList returns, as a Lean function, and that the Go function comes to just that. No condition. -/
import Derived.Test.YtfgiodolgmfdoaaDoorPQx0
import Derived.Lib.Hide
import Derived.Deep.RegionWith
import Derived.Deep.RegionHeld3
import Derived.Deep.DeepCutAuto
namespace Go.Proofs.YtfgiodolgmfdoaaDoor.PT
open Go.RowKit Go.Proofs.YtfgiodolgmfdoaaDoorW.PrintWords Go.Proofs.YtfgiodolgmfdoaaDoorW.PrintLast Go.Proofs.YtfgiodolgmfdoaaDoorW.PrintMore
attribute [local go_sem] max2_int min2_int max_two min_two max_three min_three max_four min_four
set_option linter.unusedVariables false
set_option linter.unusedSimpArgs false

theorem ret_int {k : IntKind} {a b : Int} (h : a = b) : Ending.returned (.int k a) = .returned (.int k b) := by rw [h]

def bnd (n low high : Int) (has : Bool) (at_ none_ : Int) : Int := if has = true then mn (mx (if at_ < 0 then wrap64 (at_ + n) else at_) low) high else none_

set_option maxHeartbeats 1000000 in
set_option maxRecDepth 100000 in
theorem bound_calls (has : Bool) (x none_ n low high : Int) (gn gl gh : Nat) (w : World) (hn : w.cell? ⟨gn, 0, none⟩ = some (.int .i64 n)) (hl : w.cell? ⟨gl, 0, none⟩ = some (.int .i64 low)) (hh : w.cell? ⟨gh, 0, none⟩ = some (.int .i64 high)) :
    Calls Tryd.prog 75 #[.agg #[.bool has, .int .i64 x], .int .i64 none_, .pointer (some ⟨gn, 0, none⟩), .pointer (some ⟨gl, 0, none⟩), .pointer (some ⟨gh, 0, none⟩)] w fun e w' => e = .returned (.int .i64 (bnd n low high has x none_)) ∧ Below w.heap.size w w' := by
  cases has with
  | false =>
    go_enter Tryd.func75, Tryd.ntmps75
    go_wp2
    go_ret
    exact ⟨rfl, (Below.refl _ _).alloc (Nat.le_refl _) _⟩
  | true =>
    have bn := World.block_lt_of_cell? w _ hn
    have bl := World.block_lt_of_cell? w _ hl
    have bh := World.block_lt_of_cell? w _ hh
    by_cases hx : x < 0
    · go_enter Tryd.func75, Tryd.ntmps75
      go_wp2
      all_goals go_ret
      all_goals refine ⟨ret_int ?_, (Below.refl _ _).alloc (Nat.le_refl _) _⟩
      all_goals simp only [bnd, mn, mx, if_true, if_pos hx]
      all_goals (repeat' split) <;> (try simp only [*, if_true, if_false] at *) <;> omega
    · go_enter Tryd.func75, Tryd.ntmps75
      go_wp2
      all_goals go_ret
      all_goals refine ⟨ret_int ?_, (Below.refl _ _).alloc (Nat.le_refl _) _⟩
      all_goals simp only [bnd, mn, mx, if_true, if_neg (show ¬ x < 0 by omega)]
      all_goals (repeat' split) <;> (try simp only [*, if_true, if_false] at *) <;> omega

/-- The places from p on. -/
def steps (to_ step : Int) : Nat → Int → List Int
  | 0, _ => []
  | d + 1, p => if step > 0 then (if p < to_ then (if step ≥ to_ - p then [p] else p :: steps to_ step d (p + step)) else []) else (if p > to_ then p :: steps to_ step d (p + step) else [])

def sliceList (n : Int) (h1 : Bool) (a1 : Int) (h2 : Bool) (a2 : Int) (h3 : Bool) (a3 : Int) : List Int × Int :=
  if n < 0 ∨ n > 16384 then ([], 1) else
  let s := if h3 = true then a3 else 1
  if s = 0 then ([], 2) else
  if s < 0 then (steps (bnd n (-1) (n - 1) h2 a2 (-1)) s 20000 (bnd n (-1) (n - 1) h1 a1 (n - 1)), 0)
  else (steps (bnd n 0 n h2 a2 n) s 20000 (bnd n 0 n h1 a1 0), 0)

def impl_SliceList.f (n : Int) (h1 : Bool) (a1 : Int) (h2 : Bool) (a2 : Int) (h3 : Bool) (a3 : Int) : Option (List Int × Int) :=
  if (-9223372036854775808 ≤ a3 ∧ a3 ≤ 9223372036854775807) then some (sliceList n h1 a1 h2 a2 h3 a3) else none

set_option maxHeartbeats 1000000 in
set_option maxRecDepth 100000 in
theorem slice_args (n : Int) (h1 : Bool) (a1 : Int) (h2 : Bool) (a2 : Int) (h3 : Bool) (a3 : Int) (w : World) (h : n < 0 ∨ n > 16384) :
    Calls Tryd.prog 36 #[.int .i64 n, .agg #[.bool h1, .int .i64 a1], .agg #[.bool h2, .int .i64 a2], .agg #[.bool h3, .int .i64 a3]] w fun e w' => e = .returned (.tuple #[.slice none 0 0, .int .i64 1]) ∧ Below w.heap.size w w' := by
  rcases h with h | h
  · go_enter Tryd.func36, Tryd.ntmps36
    go_wp2
    go_ret2
    exact ⟨rfl, ((((Below.refl _ _).alloc (Nat.le_refl _) _).alloc (by simp) _).alloc (by simp; omega) _).alloc (by simp; omega) _⟩
  · go_enter Tryd.func36, Tryd.ntmps36
    go_wp2
    go_ret2
    exact ⟨rfl, ((((Below.refl _ _).alloc (Nat.le_refl _) _).alloc (by simp) _).alloc (by simp; omega) _).alloc (by simp; omega) _⟩

theorem bcell {W w1 : World} (hb : Below W.heap.size W w1) : (∀ b o, b < W.heap.size → w1.cell? ⟨b, o, none⟩ = W.cell? ⟨b, o, none⟩) ∧ (∀ b o, b < W.heap.size → w1.frozen? ⟨b, o, none⟩ = W.frozen? ⟨b, o, none⟩) :=
  ⟨fun b o h => hb.cell (p := ⟨b, o, none⟩) h, fun b o h => hb.frozen (p := ⟨b, o, none⟩) h⟩

/-- What comes back. -/
def Done (w : World) (l : List Int) (e : Ending) (w' : World) : Prop := ∃ v, e = .returned (.tuple #[v, .int .i64 0]) ∧ Kd.R (Kd.int .i64) 2 w' w.heap.size (fun _ => True) v l ∧ Below w.heap.size w w'

theorem bnd_range (n low high : Int) (h : Bool) (x z : Int) (hlh : low ≤ high) (hz0 : low ≤ z) (hz1 : z ≤ high) : low ≤ bnd n low high h x z ∧ bnd n low high h x z ≤ high := by
  unfold bnd mn mx
  repeat' split
  all_goals omega

theorem keep7 {w w1 : World} (hb : Below w.heap.size w w1) {a1 a2 a3 a4 a5 a6 a7 : Addr} {v1 v2 v3 v4 v5 v6 v7 : Value} (h : w.cell? a1 = some v1 ∧ w.cell? a2 = some v2 ∧ w.cell? a3 = some v3 ∧ w.cell? a4 = some v4 ∧ w.cell? a5 = some v5 ∧ w.cell? a6 = some v6 ∧ w.cell? a7 = some v7) :
    w1.cell? a1 = some v1 ∧ w1.cell? a2 = some v2 ∧ w1.cell? a3 = some v3 ∧ w1.cell? a4 = some v4 ∧ w1.cell? a5 = some v5 ∧ w1.cell? a6 = some v6 ∧ w1.cell? a7 = some v7 :=
  ⟨pw_cell_below hb h.1, pw_cell_below hb h.2.1, pw_cell_below hb h.2.2.1, pw_cell_below hb h.2.2.2.1, pw_cell_below hb h.2.2.2.2.1, pw_cell_below hb h.2.2.2.2.2.1, pw_cell_below hb h.2.2.2.2.2.2⟩

theorem below2 {w wc wy : World} (h : Below w.heap.size w wc) (hs : w.heap.size ≤ wc.heap.size) (k : Below wc.heap.size wc wy) : Below w.heap.size w wy := below_then h hs k

set_option maxHeartbeats 4000000 in
set_option maxRecDepth 100000 in
theorem slice_up (n : Int) (h1 : Bool) (a1 : Int) (h2 : Bool) (a2 : Int) (a3 : Int) (w : World) (hn0 : 0 ≤ n) (hn1 : n ≤ 16384) (hs : 0 < a3) (hs1 : a3 ≤ 9223372036854775807) :
    Calls Tryd.prog 36 #[.int .i64 n, .agg #[.bool h1, .int .i64 a1], .agg #[.bool h2, .int .i64 a2], .agg #[.bool true, .int .i64 a3]] w (Done w (steps (bnd n 0 n h2 a2 n) a3 20000 (bnd n 0 n h1 a1 0))) := by
  go_enter Tryd.func36, Tryd.ntmps36
  go_wp2
  go_cut [11, 12] (fun s11 s12 wx => ∃ gl gh : Nat, s11 = .pointer (some ⟨gl, 0, none⟩) ∧ s12 = .pointer (some ⟨gh, 0, none⟩) ∧ wx.cell? ⟨w.heap.size, 0, none⟩ = some (.int .i64 n) ∧ wx.cell? ⟨w.heap.size + 1, 0, none⟩ = some (.bool h1) ∧ wx.cell? ⟨w.heap.size + 1, 1, none⟩ = some (.int .i64 a1) ∧ wx.cell? ⟨w.heap.size + 1 + 1, 0, none⟩ = some (.bool h2) ∧ wx.cell? ⟨w.heap.size + 1 + 1, 1, none⟩ = some (.int .i64 a2) ∧ wx.cell? ⟨gl, 0, none⟩ = some (.int .i64 0) ∧ wx.cell? ⟨gh, 0, none⟩ = some (.int .i64 n) ∧ Below w.heap.size w wx)
  case first =>
    go_region
    all_goals go_wp2
    all_goals go_meet
    all_goals refine ⟨_, _, rfl, rfl, ?_, ?_, ?_, ?_, ?_, ?_, ?_, ?_⟩
    all_goals first | (go_simp; done) | (repeat (first | exact Below.refl _ _ | apply below_alloc | apply below_drew1))
  case rest =>
    obtain ⟨gl, gh, rfl, rfl, c0, c1, c2, c3, c4, c5, c6, hbw⟩ := hcut
    have b0 := World.block_lt_of_cell? wc _ c0
    have b1 := World.block_lt_of_cell? wc _ c1
    have b3 := World.block_lt_of_cell? wc _ c3
    have b5 := World.block_lt_of_cell? wc _ c5
    have b6 := World.block_lt_of_cell? wc _ c6
    dsimp only at b0 b1 b3 b5 b6
    go_wp2
    go_cut [14, 15] (fun s14 s15 wy => s14 = .int .i64 (bnd n 0 n h1 a1 0) ∧ s15 = .int .i64 (bnd n 0 n h2 a2 n) ∧ Below wc.heap.size wc wy)
    case first =>
      go_region_held3 (fun w' => w'.cell? ⟨w.heap.size, 0, none⟩ = some (.int .i64 n) ∧ w'.cell? ⟨w.heap.size + 1, 0, none⟩ = some (.bool h1) ∧ w'.cell? ⟨w.heap.size + 1, 1, none⟩ = some (.int .i64 a1) ∧ w'.cell? ⟨w.heap.size + 1 + 1, 0, none⟩ = some (.bool h2) ∧ w'.cell? ⟨w.heap.size + 1 + 1, 1, none⟩ = some (.int .i64 a2) ∧ w'.cell? ⟨gl, 0, none⟩ = some (.int .i64 0) ∧ w'.cell? ⟨gh, 0, none⟩ = some (.int .i64 n)) (first | exact keep7 (by assumption) (by assumption) | go_keep) (first | (go_at_call 75; refine (bound_calls _ _ _ n 0 n _ _ _ _ ?_ ?_ ?_).mono ?_; (simp [*]); (simp [*]); (simp [*]); rintro e w' ⟨rfl, hb⟩))
      all_goals go_wp2_with fail
      all_goals go_meet
      all_goals exact ⟨rfl, rfl, below_step (below_step (below_drew1 (Below.refl _ _)) (by assumption)) (by assumption)⟩
    case rest =>
      obtain ⟨rfl, rfl, hby⟩ := hcut
      have hw2 : Below w.heap.size w wc := below_step hbw hby
      have hr1 := bnd_range n 0 n h1 a1 0 hn0 (by omega) hn0
      have hr2 := bnd_range n 0 n h2 a2 n hn0 hn0 (by omega)
      generalize bnd n 0 n h1 a1 0 = from_ at *
      generalize hto : bnd n 0 n h2 a2 n = to_ at *
      clear c0 c1 c2 c3 c4 c5 c6 b0 b1 b3 b5 b6 hby hbw
      go_wp2
      go_loopg [16, 17] 20000 (fun kq v16 v17 w' => ∃ (xs : List Int) (p : Int), v17 = .int .i64 p ∧ 0 ≤ p ∧ p ≤ 16384 ∧ Aside0 (xs ++ steps to_ a3 kq p = steps to_ a3 20000 from_) ∧ Aside0 (to_ - p < kq) ∧ Aside0 (xs.length + kq ≤ 20000) ∧ Aside0 (Kd.R (Kd.int .i64) 2 w' w.heap.size (fun _ => True) v16 xs) ∧ Aside0 (Below w.heap.size w w'))
      case atStart => exact ⟨[], from_, rfl, hr1.1, by omega, ⟨rfl⟩, ⟨by omega⟩, ⟨by simp⟩, ⟨Kd.R_nil _ _ _ _ _⟩, ⟨hw2⟩⟩
      case round =>
        obtain ⟨xs, p, rfl, hp0, hp1, H, HM, HL, HO, HB⟩ := hrel
        by_cases hlt : p < to_
        · obtain ⟨kq, rfl⟩ : ∃ m, gk = m + 1 := ⟨gk - 1, by have := HM.out; omega⟩
          by_cases hge : a3 ≥ to_ - p
          · go_wp2_with (first | ((with_reducible refine gate_builtin (b := .append) (xs := #[.tmp 74, .tmp 76]) rfl ?_); at_builtin; refine Kd.R_append (Kd.int .i64) (w0 := w) w.heap.size rfl (.tmp 74) (.tmp 76) 47 2 (.int .i64 0) 8 rfl Tryd.underlying47 info2 rfl (by decide) (by omega) u16 xs p [.int .i64 p] (fun _ => True) (fun _ => False) rfl rfl ?aP (fun _ hk => hk.elim) ?aF ?aO ?aB ?aS ?aL ?_; (case aP => exact rfl); (case aB => exact HB.out); (case aF => exact (fun _ _ => trivial)); (case aO => exact HO.out); (case aS => exact below_size HB.out); (case aL => have := HL.out; omega); intro v1 w1 ho hb hg hat; have HO1 := Aside0.mk ho; have HB1 := Aside0.mk hb; clear ho hb hg hat))
            go_ret2
            have h0 := H.out
            have e0 : steps to_ a3 (kq + 1) p = [p] := by simp only [steps, if_pos (show a3 > 0 by omega), if_pos (show p < to_ by omega), if_pos (show a3 ≥ to_ - p by omega)]
            rw [e0] at h0
            rw [← h0]
            exact ⟨v1, rfl, HO1.out, HB1.out⟩
          · go_wp2_with (first | ((with_reducible refine gate_builtin (b := .append) (xs := #[.tmp 74, .tmp 76]) rfl ?_); at_builtin; refine Kd.R_append (Kd.int .i64) (w0 := w) w.heap.size rfl (.tmp 74) (.tmp 76) 47 2 (.int .i64 0) 8 rfl Tryd.underlying47 info2 rfl (by decide) (by omega) u16 xs p [.int .i64 p] (fun _ => True) (fun _ => False) rfl rfl ?aP (fun _ hk => hk.elim) ?aF ?aO ?aB ?aS ?aL ?_; (case aP => exact rfl); (case aB => exact HB.out); (case aF => exact (fun _ _ => trivial)); (case aO => exact HO.out); (case aS => exact below_size HB.out); (case aL => have := HL.out; omega); intro v1 w1 ho hb hg hat; have HO1 := Aside0.mk ho; have HB1 := Aside0.mk hb; clear ho hb hg hat))
            have e0 : steps to_ a3 (kq + 1) p = p :: steps to_ a3 kq (p + a3) := by simp only [steps, if_pos (show a3 > 0 by omega), if_pos (show p < to_ by omega), if_neg (show ¬ a3 ≥ to_ - p by omega)]
            go_roundg kq
            case measure => omega
            case rel => exact ⟨xs ++ [p], p + a3, rfl, by omega, by omega, ⟨by have h0 := H.out; rw [e0] at h0; rw [← h0]; simp⟩, ⟨by have := HM.out; omega⟩, ⟨by have := HL.out; simp; omega⟩, HO1, HB1⟩
        · have h0 := H.out
          have e0 : steps to_ a3 gk p = [] := by
            cases gk with
            | zero => rfl
            | succ m => simp only [steps, if_pos (show a3 > 0 by omega), if_neg hlt]
          rw [e0, List.append_nil] at h0
          have HF := Aside0.mk h0
          clear h0 e0
          go_wp2
          go_ret2
          rw [← HF.out]
          exact ⟨_, rfl, HO.out, HB.out⟩
set_option maxHeartbeats 4000000 in
set_option maxRecDepth 100000 in
theorem slice_one (n : Int) (h1 : Bool) (a1 : Int) (h2 : Bool) (a2 : Int) (a3 : Int) (w : World) (hn0 : 0 ≤ n) (hn1 : n ≤ 16384) :
    Calls Tryd.prog 36 #[.int .i64 n, .agg #[.bool h1, .int .i64 a1], .agg #[.bool h2, .int .i64 a2], .agg #[.bool false, .int .i64 a3]] w (Done w (steps (bnd n 0 n h2 a2 n) 1 20000 (bnd n 0 n h1 a1 0))) := by
  go_enter Tryd.func36, Tryd.ntmps36
  go_wp2
  go_cut [11, 12] (fun s11 s12 wx => ∃ gl gh : Nat, s11 = .pointer (some ⟨gl, 0, none⟩) ∧ s12 = .pointer (some ⟨gh, 0, none⟩) ∧ wx.cell? ⟨w.heap.size, 0, none⟩ = some (.int .i64 n) ∧ wx.cell? ⟨w.heap.size + 1, 0, none⟩ = some (.bool h1) ∧ wx.cell? ⟨w.heap.size + 1, 1, none⟩ = some (.int .i64 a1) ∧ wx.cell? ⟨w.heap.size + 1 + 1, 0, none⟩ = some (.bool h2) ∧ wx.cell? ⟨w.heap.size + 1 + 1, 1, none⟩ = some (.int .i64 a2) ∧ wx.cell? ⟨gl, 0, none⟩ = some (.int .i64 0) ∧ wx.cell? ⟨gh, 0, none⟩ = some (.int .i64 n) ∧ Below w.heap.size w wx)
  case first =>
    go_region
    all_goals go_wp2
    all_goals go_meet
    all_goals refine ⟨_, _, rfl, rfl, ?_, ?_, ?_, ?_, ?_, ?_, ?_, ?_⟩
    all_goals first | (go_simp; done) | (repeat (first | exact Below.refl _ _ | apply below_alloc | apply below_drew1))
  case rest =>
    obtain ⟨gl, gh, rfl, rfl, c0, c1, c2, c3, c4, c5, c6, hbw⟩ := hcut
    have b0 := World.block_lt_of_cell? wc _ c0
    have b1 := World.block_lt_of_cell? wc _ c1
    have b3 := World.block_lt_of_cell? wc _ c3
    have b5 := World.block_lt_of_cell? wc _ c5
    have b6 := World.block_lt_of_cell? wc _ c6
    dsimp only at b0 b1 b3 b5 b6
    go_wp2
    go_cut [14, 15] (fun s14 s15 wy => s14 = .int .i64 (bnd n 0 n h1 a1 0) ∧ s15 = .int .i64 (bnd n 0 n h2 a2 n) ∧ Below wc.heap.size wc wy)
    case first =>
      go_region_held3 (fun w' => w'.cell? ⟨w.heap.size, 0, none⟩ = some (.int .i64 n) ∧ w'.cell? ⟨w.heap.size + 1, 0, none⟩ = some (.bool h1) ∧ w'.cell? ⟨w.heap.size + 1, 1, none⟩ = some (.int .i64 a1) ∧ w'.cell? ⟨w.heap.size + 1 + 1, 0, none⟩ = some (.bool h2) ∧ w'.cell? ⟨w.heap.size + 1 + 1, 1, none⟩ = some (.int .i64 a2) ∧ w'.cell? ⟨gl, 0, none⟩ = some (.int .i64 0) ∧ w'.cell? ⟨gh, 0, none⟩ = some (.int .i64 n)) (first | exact keep7 (by assumption) (by assumption) | go_keep) (first | (go_at_call 75; refine (bound_calls _ _ _ n 0 n _ _ _ _ ?_ ?_ ?_).mono ?_; (simp [*]); (simp [*]); (simp [*]); rintro e w' ⟨rfl, hb⟩))
      all_goals go_wp2_with fail
      all_goals go_meet
      all_goals exact ⟨rfl, rfl, below_step (below_step (below_drew1 (Below.refl _ _)) (by assumption)) (by assumption)⟩
    case rest =>
      obtain ⟨rfl, rfl, hby⟩ := hcut
      have hw2 : Below w.heap.size w wc := below_step hbw hby
      have hr1 := bnd_range n 0 n h1 a1 0 hn0 (by omega) hn0
      have hr2 := bnd_range n 0 n h2 a2 n hn0 hn0 (by omega)
      generalize bnd n 0 n h1 a1 0 = from_ at *
      generalize hto : bnd n 0 n h2 a2 n = to_ at *
      clear c0 c1 c2 c3 c4 c5 c6 b0 b1 b3 b5 b6 hby hbw
      go_wp2
      go_loopg [16, 17] 20000 (fun kq v16 v17 w' => ∃ (xs : List Int) (p : Int), v17 = .int .i64 p ∧ 0 ≤ p ∧ p ≤ 16384 ∧ Aside0 (xs ++ steps to_ 1 kq p = steps to_ 1 20000 from_) ∧ Aside0 (to_ - p < kq) ∧ Aside0 (xs.length + kq ≤ 20000) ∧ Aside0 (Kd.R (Kd.int .i64) 2 w' w.heap.size (fun _ => True) v16 xs) ∧ Aside0 (Below w.heap.size w w'))
      case atStart => exact ⟨[], from_, rfl, hr1.1, by omega, ⟨rfl⟩, ⟨by omega⟩, ⟨by simp⟩, ⟨Kd.R_nil _ _ _ _ _⟩, ⟨hw2⟩⟩
      case round =>
        obtain ⟨xs, p, rfl, hp0, hp1, H, HM, HL, HO, HB⟩ := hrel
        by_cases hlt : p < to_
        · obtain ⟨kq, rfl⟩ : ∃ m, gk = m + 1 := ⟨gk - 1, by have := HM.out; omega⟩
          by_cases hge : (1 : Int) ≥ to_ - p
          · go_wp2_with (first | ((with_reducible refine gate_builtin (b := .append) (xs := #[.tmp 74, .tmp 76]) rfl ?_); at_builtin; refine Kd.R_append (Kd.int .i64) (w0 := w) w.heap.size rfl (.tmp 74) (.tmp 76) 47 2 (.int .i64 0) 8 rfl Tryd.underlying47 info2 rfl (by decide) (by omega) u16 xs p [.int .i64 p] (fun _ => True) (fun _ => False) rfl rfl ?aP (fun _ hk => hk.elim) ?aF ?aO ?aB ?aS ?aL ?_; (case aP => exact rfl); (case aB => exact HB.out); (case aF => exact (fun _ _ => trivial)); (case aO => exact HO.out); (case aS => exact below_size HB.out); (case aL => have := HL.out; omega); intro v1 w1 ho hb hg hat; have HO1 := Aside0.mk ho; have HB1 := Aside0.mk hb; clear ho hb hg hat))
            go_ret2
            have h0 := H.out
            have e0 : steps to_ 1 (kq + 1) p = [p] := by simp only [steps, if_pos (show (1 : Int) > 0 by omega), if_pos (show p < to_ by omega), if_pos (show (1 : Int) ≥ to_ - p by omega)]
            rw [e0] at h0
            rw [← h0]
            exact ⟨v1, rfl, HO1.out, HB1.out⟩
          · go_wp2_with (first | ((with_reducible refine gate_builtin (b := .append) (xs := #[.tmp 74, .tmp 76]) rfl ?_); at_builtin; refine Kd.R_append (Kd.int .i64) (w0 := w) w.heap.size rfl (.tmp 74) (.tmp 76) 47 2 (.int .i64 0) 8 rfl Tryd.underlying47 info2 rfl (by decide) (by omega) u16 xs p [.int .i64 p] (fun _ => True) (fun _ => False) rfl rfl ?aP (fun _ hk => hk.elim) ?aF ?aO ?aB ?aS ?aL ?_; (case aP => exact rfl); (case aB => exact HB.out); (case aF => exact (fun _ _ => trivial)); (case aO => exact HO.out); (case aS => exact below_size HB.out); (case aL => have := HL.out; omega); intro v1 w1 ho hb hg hat; have HO1 := Aside0.mk ho; have HB1 := Aside0.mk hb; clear ho hb hg hat))
            have e0 : steps to_ 1 (kq + 1) p = p :: steps to_ 1 kq (p + 1) := by simp only [steps, if_pos (show (1 : Int) > 0 by omega), if_pos (show p < to_ by omega), if_neg (show ¬ (1 : Int) ≥ to_ - p by omega)]
            go_roundg kq
            case measure => omega
            case rel => exact ⟨xs ++ [p], p + 1, rfl, by omega, by omega, ⟨by have h0 := H.out; rw [e0] at h0; rw [← h0]; simp⟩, ⟨by have := HM.out; omega⟩, ⟨by have := HL.out; simp; omega⟩, HO1, HB1⟩
        · have h0 := H.out
          have e0 : steps to_ 1 gk p = [] := by
            cases gk with
            | zero => rfl
            | succ m => simp only [steps, if_pos (show (1 : Int) > 0 by omega), if_neg hlt]
          rw [e0, List.append_nil] at h0
          have HF := Aside0.mk h0
          clear h0 e0
          go_wp2
          go_ret2
          rw [← HF.out]
          exact ⟨_, rfl, HO.out, HB.out⟩

set_option maxHeartbeats 4000000 in
set_option maxRecDepth 100000 in
theorem slice_down (n : Int) (h1 : Bool) (a1 : Int) (h2 : Bool) (a2 : Int) (a3 : Int) (w : World) (hn0 : 0 ≤ n) (hn1 : n ≤ 16384) (hs : a3 < 0) (hs1 : -9223372036854775808 ≤ a3) :
    Calls Tryd.prog 36 #[.int .i64 n, .agg #[.bool h1, .int .i64 a1], .agg #[.bool h2, .int .i64 a2], .agg #[.bool true, .int .i64 a3]] w (Done w (steps (bnd n (-1) (n - 1) h2 a2 (-1)) a3 20000 (bnd n (-1) (n - 1) h1 a1 (n - 1)))) := by
  go_enter Tryd.func36, Tryd.ntmps36
  go_wp2
  go_cut [11, 12] (fun s11 s12 wx => ∃ gl gh : Nat, s11 = .pointer (some ⟨gl, 0, none⟩) ∧ s12 = .pointer (some ⟨gh, 0, none⟩) ∧ wx.cell? ⟨w.heap.size, 0, none⟩ = some (.int .i64 n) ∧ wx.cell? ⟨w.heap.size + 1, 0, none⟩ = some (.bool h1) ∧ wx.cell? ⟨w.heap.size + 1, 1, none⟩ = some (.int .i64 a1) ∧ wx.cell? ⟨w.heap.size + 1 + 1, 0, none⟩ = some (.bool h2) ∧ wx.cell? ⟨w.heap.size + 1 + 1, 1, none⟩ = some (.int .i64 a2) ∧ wx.cell? ⟨gl, 0, none⟩ = some (.int .i64 0) ∧ wx.cell? ⟨gh, 0, none⟩ = some (.int .i64 n) ∧ wx.frozen? ⟨gl, 0, none⟩ = false ∧ wx.frozen? ⟨gh, 0, none⟩ = false ∧ w.heap.size + 1 + 1 < gl ∧ w.heap.size + 1 + 1 < gh ∧ gl ≠ gh ∧ Below w.heap.size w wx)
  case first =>
    go_region
    all_goals go_wp2
    all_goals go_meet
    all_goals refine ⟨_, _, rfl, rfl, ?_, ?_, ?_, ?_, ?_, ?_, ?_, ?_, ?_, ?_, ?_, ?_, ?_⟩
    all_goals first | omega | (go_simp; done) | (repeat (first | exact Below.refl _ _ | apply below_alloc | apply below_drew1))
  case rest =>
    obtain ⟨gl, gh, rfl, rfl, c0, c1, c2, c3, c4, c5, c6, z5, z6, q1, q2, q3, hbw⟩ := hcut
    have b0 := World.block_lt_of_cell? wc _ c0
    have b1 := World.block_lt_of_cell? wc _ c1
    have b3 := World.block_lt_of_cell? wc _ c3
    have b5 := World.block_lt_of_cell? wc _ c5
    have b6 := World.block_lt_of_cell? wc _ c6
    dsimp only at b0 b1 b3 b5 b6
    go_wp2
    go_cut [] (fun wy => wy.cell? ⟨w.heap.size, 0, none⟩ = some (.int .i64 n) ∧ wy.cell? ⟨w.heap.size + 1, 0, none⟩ = some (.bool h1) ∧ wy.cell? ⟨w.heap.size + 1, 1, none⟩ = some (.int .i64 a1) ∧ wy.cell? ⟨w.heap.size + 1 + 1, 0, none⟩ = some (.bool h2) ∧ wy.cell? ⟨w.heap.size + 1 + 1, 1, none⟩ = some (.int .i64 a2) ∧ wy.cell? ⟨gl, 0, none⟩ = some (.int .i64 (-1)) ∧ wy.cell? ⟨gh, 0, none⟩ = some (.int .i64 (n - 1)) ∧ Below w.heap.size w wy)
    case first =>
      go_region
      all_goals go_wp2
      all_goals go_meet
      all_goals refine ⟨?_, ?_, ?_, ?_, ?_, ?_, ?_, ?_⟩
      all_goals first | exact ((hbw.setCell (show _ ≤ gl by omega) _).setCell (show _ ≤ gh by omega) _).drew | exact ((hbw.setCell (show _ ≤ gh by omega) _).setCell (show _ ≤ gl by omega) _).drew | (go_simp; done) | (simp [*]; done)
    case rest =>
      obtain ⟨c0, c1, c2, c3, c4, c5, c6, hbw⟩ := hcut
      clear z5 z6
      have b0 := World.block_lt_of_cell? wc _ c0
      have b1 := World.block_lt_of_cell? wc _ c1
      have b3 := World.block_lt_of_cell? wc _ c3
      have b5 := World.block_lt_of_cell? wc _ c5
      have b6 := World.block_lt_of_cell? wc _ c6
      dsimp only at b0 b1 b3 b5 b6
      go_wp2
      go_cut [14, 15] (fun s14 s15 wy => s14 = .int .i64 (bnd n (-1) (n - 1) h1 a1 (-1)) ∧ s15 = .int .i64 (bnd n (-1) (n - 1) h2 a2 (n - 1)) ∧ Below wc.heap.size wc wy)
      case first =>
        go_region_held3 (fun w' => w'.cell? ⟨w.heap.size, 0, none⟩ = some (.int .i64 n) ∧ w'.cell? ⟨w.heap.size + 1, 0, none⟩ = some (.bool h1) ∧ w'.cell? ⟨w.heap.size + 1, 1, none⟩ = some (.int .i64 a1) ∧ w'.cell? ⟨w.heap.size + 1 + 1, 0, none⟩ = some (.bool h2) ∧ w'.cell? ⟨w.heap.size + 1 + 1, 1, none⟩ = some (.int .i64 a2) ∧ w'.cell? ⟨gl, 0, none⟩ = some (.int .i64 (-1)) ∧ w'.cell? ⟨gh, 0, none⟩ = some (.int .i64 (n - 1))) (first | exact keep7 (by assumption) (by assumption) | go_keep) (first | (go_at_call 75; refine (bound_calls _ _ _ n (-1) (n - 1) _ _ _ _ ?_ ?_ ?_).mono ?_; (simp [*]); (simp [*]); (simp [*]); rintro e w' ⟨rfl, hb⟩))
        all_goals go_wp2_with fail
        all_goals go_meet
        all_goals exact ⟨rfl, rfl, below_step (below_step (below_drew1 (Below.refl _ _)) (by assumption)) (by assumption)⟩
      case rest =>
        obtain ⟨rfl, rfl, hby0⟩ := hcut
        have hbw1 : Below w.heap.size w wc := below_step hbw hby0
        have c0' := pw_cell_below hby0 c0
        have c1' := pw_cell_below hby0 c1
        have c2' := pw_cell_below hby0 c2
        have c3' := pw_cell_below hby0 c3
        have c4' := pw_cell_below hby0 c4
        have c5' := pw_cell_below hby0 c5
        have c6' := pw_cell_below hby0 c6
        clear c0 c1 c2 c3 c4 c5 c6 b0 b1 b3 b5 b6 hby0 hbw
        have b0 := World.block_lt_of_cell? wc _ c0'
        have b1 := World.block_lt_of_cell? wc _ c1'
        have b3 := World.block_lt_of_cell? wc _ c3'
        have b5 := World.block_lt_of_cell? wc _ c5'
        have b6 := World.block_lt_of_cell? wc _ c6'
        dsimp only at b0 b1 b3 b5 b6
        go_wp2
        go_cut [14, 15] (fun s14 s15 wy => s14 = .int .i64 (bnd n (-1) (n - 1) h1 a1 (n - 1)) ∧ s15 = .int .i64 (bnd n (-1) (n - 1) h2 a2 (-1)) ∧ Below wc.heap.size wc wy)
        case first =>
          go_region_held3 (fun w' => w'.cell? ⟨w.heap.size, 0, none⟩ = some (.int .i64 n) ∧ w'.cell? ⟨w.heap.size + 1, 0, none⟩ = some (.bool h1) ∧ w'.cell? ⟨w.heap.size + 1, 1, none⟩ = some (.int .i64 a1) ∧ w'.cell? ⟨w.heap.size + 1 + 1, 0, none⟩ = some (.bool h2) ∧ w'.cell? ⟨w.heap.size + 1 + 1, 1, none⟩ = some (.int .i64 a2) ∧ w'.cell? ⟨gl, 0, none⟩ = some (.int .i64 (-1)) ∧ w'.cell? ⟨gh, 0, none⟩ = some (.int .i64 (n - 1))) (first | exact keep7 (by assumption) (by assumption) | go_keep) (first | (go_at_call 75; refine (bound_calls _ _ _ n (-1) (n - 1) _ _ _ _ ?_ ?_ ?_).mono ?_; (simp [*]); (simp [*]); (simp [*]); rintro e w' ⟨rfl, hb⟩))
          all_goals go_wp2_with fail
          all_goals go_meet
          all_goals exact ⟨rfl, rfl, below_step (below_step (below_drew1 (Below.refl _ _)) (by assumption)) (by assumption)⟩
        case rest =>
          obtain ⟨rfl, rfl, hby⟩ := hcut
          have hw2 : Below w.heap.size w wc := below_step hbw1 hby
          have hr1 := bnd_range n (-1) (n - 1) h1 a1 (n - 1) (by omega) (by omega) (by omega)
          have hr2 := bnd_range n (-1) (n - 1) h2 a2 (-1) (by omega) (by omega) (by omega)
          generalize bnd n (-1) (n - 1) h1 a1 (n - 1) = from_ at *
          generalize hto : bnd n (-1) (n - 1) h2 a2 (-1) = to_ at *
          clear c0' c1' c2' c3' c4' c5' c6' b0 b1 b3 b5 b6 hby hbw1
          go_wp2
          go_loopg [16, 17] 20000 (fun kq v16 v17 w' => ∃ (xs : List Int) (p : Int), v17 = .int .i64 p ∧ -9223372036854775808 ≤ p ∧ p ≤ 16384 ∧ Aside0 (xs ++ steps to_ a3 kq p = steps to_ a3 20000 from_) ∧ Aside0 (p - to_ < kq) ∧ Aside0 (xs.length + kq ≤ 20000) ∧ Aside0 (Kd.R (Kd.int .i64) 2 w' w.heap.size (fun _ => True) v16 xs) ∧ Aside0 (Below w.heap.size w w'))
          case atStart => exact ⟨[], from_, rfl, by omega, by omega, ⟨rfl⟩, ⟨by omega⟩, ⟨by simp⟩, ⟨Kd.R_nil _ _ _ _ _⟩, ⟨hw2⟩⟩
          case round =>
            obtain ⟨xs, p, rfl, hp0, hp1, H, HM, HL, HO, HB⟩ := hrel
            by_cases hlt : to_ < p
            · obtain ⟨kq, rfl⟩ : ∃ m, gk = m + 1 := ⟨gk - 1, by have := HM.out; omega⟩
              go_wp2_with (first | ((with_reducible refine gate_builtin (b := .append) (xs := #[.tmp 74, .tmp 76]) rfl ?_); at_builtin; refine Kd.R_append (Kd.int .i64) (w0 := w) w.heap.size rfl (.tmp 74) (.tmp 76) 47 2 (.int .i64 0) 8 rfl Tryd.underlying47 info2 rfl (by decide) (by omega) u16 xs p [.int .i64 p] (fun _ => True) (fun _ => False) rfl rfl ?aP (fun _ hk => hk.elim) ?aF ?aO ?aB ?aS ?aL ?_; (case aP => exact rfl); (case aB => exact HB.out); (case aF => exact (fun _ _ => trivial)); (case aO => exact HO.out); (case aS => exact below_size HB.out); (case aL => have := HL.out; omega); intro v1 w1 ho hb hg hat; have HO1 := Aside0.mk ho; have HB1 := Aside0.mk hb; clear ho hb hg hat))
              have e0 : steps to_ a3 (kq + 1) p = p :: steps to_ a3 kq (p + a3) := by simp only [steps, if_neg (show ¬ a3 > 0 by omega), if_pos (show p > to_ by omega)]
              go_roundg kq
              case measure => omega
              case rel => exact ⟨xs ++ [p], p + a3, rfl, by omega, by omega, ⟨by have h0 := H.out; rw [e0] at h0; rw [← h0]; simp⟩, ⟨by have := HM.out; omega⟩, ⟨by have := HL.out; simp; omega⟩, HO1, HB1⟩
            · have h0 := H.out
              have e0 : steps to_ a3 gk p = [] := by
                cases gk with
                | zero => rfl
                | succ m => simp only [steps, if_neg (show ¬ a3 > 0 by omega), if_neg (show ¬ p > to_ by omega)]
              rw [e0, List.append_nil] at h0
              have HF := Aside0.mk h0
              clear h0 e0
              go_wp2
              go_ret2
              rw [← HF.out]
              exact ⟨_, rfl, HO.out, HB.out⟩


set_option maxHeartbeats 1000000 in
set_option maxRecDepth 100000 in
theorem slice_zero (n : Int) (h1 : Bool) (a1 : Int) (h2 : Bool) (a2 : Int) (w : World) (hn0 : 0 ≤ n) (hn1 : n ≤ 16384) :
    Calls Tryd.prog 36 #[.int .i64 n, .agg #[.bool h1, .int .i64 a1], .agg #[.bool h2, .int .i64 a2], .agg #[.bool true, .int .i64 0]] w fun e w' => e = .returned (.tuple #[.slice none 0 0, .int .i64 2]) ∧ Below w.heap.size w w' := by
  go_enter Tryd.func36, Tryd.ntmps36
  go_wp2
  go_ret2
  exact ⟨rfl, ((((Below.refl _ _).alloc (Nat.le_refl _) _).alloc (by simp) _).alloc (by simp; omega) _).alloc (by simp; omega) _⟩

theorem impl_SliceList.calls (a0 : Int) (a1_0 : Bool) (a1_1 : Int) (a2_0 : Bool) (a2_1 : Int) (a3_0 : Bool) (a3_1 : Int) (r1 : List Int) (r2 : Int) (w : World) (h : impl_SliceList.f a0 a1_0 a1_1 a2_0 a2_1 a3_0 a3_1 = some (r1, r2)) :
    Calls Tryd.prog 36 #[.int .i64 a0, .agg #[.bool a1_0, .int .i64 a1_1], .agg #[.bool a2_0, .int .i64 a2_1], .agg #[.bool a3_0, .int .i64 a3_1]] w fun e w' => ∃ v0_ : Value, e = .returned (.tuple #[v0_, .int .i64 r2]) ∧ Kd.R (Kd.int .i64) 2 w' w.heap.size (fun _ => True) v0_ r1 ∧ Below w.heap.size w w' := by
  unfold impl_SliceList.f at h
  split at h
  · rename_i hb
    have h := Option.some.inj h
    unfold sliceList at h
    by_cases hn : a0 < 0 ∨ a0 > 16384
    · rw [if_pos hn] at h
      obtain ⟨rfl, rfl⟩ := Prod.mk.inj h
      exact (slice_args a0 a1_0 a1_1 a2_0 a2_1 a3_0 a3_1 w hn).mono fun e w' ⟨he, hb⟩ => ⟨_, he, Kd.R_nil _ _ _ _ _, hb⟩
    · rw [if_neg hn] at h
      cases a3_0 with
      | false =>
        simp only [Bool.false_eq_true, if_false] at h
        rw [if_neg (by decide), if_neg (by decide)] at h
        obtain ⟨rfl, rfl⟩ := Prod.mk.inj h
        exact slice_one a0 a1_0 a1_1 a2_0 a2_1 a3_1 w (by omega) (by omega)
      | true =>
        simp only [if_true] at h
        by_cases h0 : a3_1 = 0
        · rw [if_pos h0] at h
          obtain ⟨rfl, rfl⟩ := Prod.mk.inj h
          subst h0
          exact (slice_zero a0 a1_0 a1_1 a2_0 a2_1 w (by omega) (by omega)).mono fun e w' ⟨he, hb⟩ => ⟨_, he, Kd.R_nil _ _ _ _ _, hb⟩
        · rw [if_neg h0] at h
          by_cases hneg : a3_1 < 0
          · rw [if_pos hneg] at h
            obtain ⟨rfl, rfl⟩ := Prod.mk.inj h
            exact slice_down a0 a1_0 a1_1 a2_0 a2_1 a3_1 w (by omega) (by omega) hneg (by omega)
          · rw [if_neg hneg] at h
            obtain ⟨rfl, rfl⟩ := Prod.mk.inj h
            exact slice_up a0 a1_0 a1_1 a2_0 a2_1 a3_1 w (by omega) (by omega) (by omega) (by omega)
  · simp at h

end Go.Proofs.YtfgiodolgmfdoaaDoor.PT
