/- The program's yslots: the slots that a hash is looked for in, for whatever function of a slot that it is handed; no condition beyond those of the theorems. -/
import Derived.Test.YtohilfkdfcihgaaPDix0
import Derived.Lib.Hide
import Derived.Deep.RegionWith
import Derived.Deep.RegionHeld3
import Derived.Deep.DeepCutAuto
namespace Go.Proofs.Ytohilfkdfcihgaa.PDi
open Go.RowKit Go.Proofs.YtohilfkdfcihgaaW.PrintWords Go.Proofs.YtohilfkdfcihgaaW.PrintLast Go.Proofs.YtohilfkdfcihgaaW.PrintMore
attribute [local go_sem] max2_int min2_int max_two min_two max_three min_three max_four min_four
set_option linter.unusedVariables false
set_option linter.unusedSimpArgs false
def gone (h k : Int) : Int := h / 2 ^ min k.toNat 64
theorem gone_range (h k : Int) (h0 : 0 ≤ h) (h1 : h ≤ 18446744073709551615) (hk : 5 ≤ k) : 0 ≤ gone h k ∧ gone h k ≤ 576460752303423488 := by
  unfold gone
  have hm : 5 ≤ min k.toNat 64 := by omega
  generalize min k.toNat 64 = m at *
  have h2 : (32 : Int) ≤ 2 ^ m := by
    have : 2 ^ 5 ≤ 2 ^ m := Nat.pow_le_pow_right (by decide) hm
    exact_mod_cast this
  refine ⟨Int.ediv_nonneg h0 (by omega), Int.ediv_le_of_le_mul (by omega) ?_⟩
  have : (576460752303423488 : Int) * 32 ≤ 576460752303423488 * 2 ^ m := Int.mul_le_mul_of_nonneg_left h2 (by omega)
  omega
def nxt (h n s k : Int) : Int := (5 * s + 1 + gone h k) % n
def probe {σ : Type} (step : σ → Int → σ × Bool) (h n : Int) : Nat → σ → Int → Int → Option σ
  | 0, _, _, _ => none
  | f + 1, st, s, k => if (step st s).2 = true then probe step h n f (step st s).1 (nxt h n s k) (k + 5) else some (step st s).1
set_option maxHeartbeats 1000000 in
set_option maxRecDepth 100000 in
theorem yslots_calls {σ : Type} (K : FuncId) (caps : Array Value) (I : Nat → σ → World → Prop) (step : σ → Int → σ × Bool) (h n : Int) (hn0 : 0 < n) (hn1 : n ≤ 1000000)
    (hcf : ∀ args w, (callFunc K args).run Try.prog w = .ok (.enter K args) w) (hh0 : 0 ≤ h) (hh1 : h ≤ 18446744073709551615)
    (hstep : ∀ f st s w, 0 ≤ s → s < n → I (f + 1) st w → Calls Try.prog K (#[.int .i64 s] ++ caps) w fun e w' => e = .returned (.bool (step st s).2) ∧ I f (step st s).1 w')
    (fuel : Nat) (hf : fuel ≤ 1000000000) (st0 st1 : σ) (w : World) (hI : I fuel st0 w) (hp : probe step h n fuel st0 (h % n) 5 = some st1) :
    Calls Try.prog 70 #[.int .u64 h, .int .i64 n, .func (.func K) #[] caps] w fun e w' => e = .returned (.tuple #[]) ∧ ∃ f, I f st1 w' := by
  have HP := Aside0.mk hp
  have HS := Aside0.mk hstep
  have HI := Aside0.mk hI
  clear hp hstep hI
  go_enter Try.func70, Try.ntmps70
  go_wp2_with fail
  go_loopg [7, 8] fuel (fun kq v7 v8 w' => ∃ (st : σ) (s k : Int), v7 = .int .u64 s ∧ v8 = .int .i64 k ∧ 0 ≤ s ∧ s < n ∧ 5 ≤ k ∧ k + 5 * kq ≤ 5000000005 ∧ Aside0 (probe step h n kq st s k = some st1) ∧ Aside0 (I kq st w'))
  case atStart => exact ⟨st0, h % n, 5, rfl, rfl, Int.emod_nonneg _ (by omega), Int.emod_lt_of_pos _ hn0, by omega, by omega, HP, HI⟩
  case round =>
    obtain ⟨st, s, k, rfl, rfl, hs0, hs1, hk0, hk1, H, HJ⟩ := hrel
    obtain ⟨kq, rfl⟩ : ∃ m, gk = m + 1 := ⟨gk - 1, by
      have := H.out
      cases gk with
      | zero => simp [probe] at this
      | succ m => omega⟩
    have H0 := H.out
    simp only [probe] at H0
    clear H
    have HN := Lib.hid hn1
    go_wp2_with fail
    refine (HS.out kq st s _ hs0 hs1 HJ.out).mono ?_
    rintro e w' ⟨rfl, hJ⟩
    have HJ1 := Aside0.mk hJ
    clear hJ HJ
    cases hb : (step st s).2 with
    | false =>
      rw [hb] at H0
      simp only [Bool.false_eq_true, if_false] at H0
      obtain rfl := Option.some.inj H0
      clear H0
      go_wp2
      go_end0
      exact ⟨rfl, _, HJ1.out⟩
    | true =>
      rw [hb] at H0
      simp only [if_true] at H0
      have HB := Aside0.mk hb
      have HG := Aside0.mk H0
      clear hb H0
      have hk2 : 0 ≤ k := by omega
      have hgr := gone_range h k hh0 hh1 hk0
      have hns0 : 0 ≤ nxt h n s k := Int.emod_nonneg _ (by omega)
      have hns1 : nxt h n s k < n := Int.emod_lt_of_pos _ hn0
      have HX := Lib.hid (show nxt h n s k = (5 * s + 1 + gone h k) % n from rfl)
      obtain ⟨sh, hsh⟩ : ∃ j : Int, gone h k = j := ⟨_, rfl⟩
      have hsh2 : h / 2 ^ min k.toNat 64 = sh := hsh
      rw [hsh] at hgr
      have HY := Lib.hid hsh
      clear hsh
      have hn2 := HN.out
      have hnn : ¬ n = 0 := by omega
      generalize nxt h n s k = s2 at *
      go_wp2
      rw [← HY.out, ← HX.out]
      go_roundg kq
      case measure => omega
      case rel => exact ⟨_, s2, k + 5, rfl, rfl, hns0, hns1, by omega, by omega, HG, HJ1⟩
end Go.Proofs.Ytohilfkdfcihgaa.PDi
