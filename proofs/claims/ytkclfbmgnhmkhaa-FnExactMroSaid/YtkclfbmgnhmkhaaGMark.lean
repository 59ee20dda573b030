/- What marking classes, and rows of numbers, comes to. No condition beyond those of the theorems. -/
import Derived.Test.YtkclfbmgnhmkhaaPMx1
namespace Go.Proofs.Ytkclfbmgnhmkhaa.PC
open Go.RowKit Go.Proofs.YtkclfbmgnhmkhaaW.PrintWords Go.Proofs.YtkclfbmgnhmkhaaW.PrintLast Go.Proofs.YtkclfbmgnhmkhaaW.PrintMore
set_option linter.unusedVariables false
set_option linter.unusedSimpArgs false

def markSS (k : Nat) : List (List Int) → Int → Option (Int × List (List Int))
  | [], a => some (a, [])
  | L :: r, a => (laws_markInt64S.f k L a).bind fun p => (markSS k r p.1).map fun q => (q.1, p.2 :: q.2)
def markCS (k : Nat) : List S41 → Int → Option (Int × List S41)
  | [], a => some (a, [])
  | c :: r, a => (laws_markInt64S.f k c.f0 a).bind fun p => (laws_markAttrS.f k c.f1 p.1).bind fun q => (markCS k r q.1).map fun s => (s.1, ⟨p.2, q.2⟩ :: s.2)
theorem set_mid {α : Type} (D : List α) (L L2 : α) (r : List α) (i : Nat) (h : D.length = i) : (D ++ L :: r).set i L2 = (D ++ [L2]) ++ r := by
  rw [List.set_append_right _ _ (by omega), h, Nat.sub_self, List.set_cons_zero, List.append_assoc]
  rfl
theorem get_mid {α : Type} (D : List α) (L z : α) (r : List α) (i : Nat) (h : D.length = i) : (D ++ L :: r).getD i z = L := by
  rw [List.getD_eq_getElem?_getD, List.getElem?_append_right (by omega), h, Nat.sub_self]
  rfl

set_option maxHeartbeats 8000000 in
set_option maxRecDepth 1000000 in
theorem markInt64SS_calls (k : Nat) (P : Nat → Prop) (v : Value) (LS : List (List Int)) (a1 r1 : Int) (r2 : List (List Int)) (w0 w : World) (hlen : LS.length ≤ 1000000000) (hB : Below w0.heap.size w0 w) (ho : Kd.S (Kd.slice 2 (Kd.int .i64)) 37 w w0.heap.size P v LS) (h : markSS k LS a1 = some (r1, r2)) :
    Calls Try.prog 35 #[v, .int .i64 a1] w fun e w' => e = .returned (.int .i64 r1) ∧ Kd.S (Kd.slice 2 (Kd.int .i64)) 37 w' w0.heap.size P v r2 ∧ Below w0.heap.size w0 w' ∧ Kept w w' P := by
  have HM := Aside0.mk h
  have HS := Aside0.mk ho
  have HB := Aside0.mk hB
  have HK := Aside0.mk (Kept.refl w P)
  clear h ho hB
  obtain ⟨A, c, rfl⟩ := Kd.S_slice HS.out
  obtain ⟨n, hn⟩ : ∃ n, LS.length = n := ⟨_, rfl⟩
  rw [hn] at hlen HS ⊢
  have HN := Aside0.mk hn
  clear hn
  go_enter Try.func35, Try.ntmps35
  go_wp2_with fail
  go_loopg [1, 5] n (fun kq v1 v5 w' => ∃ (i : Nat) (a : Int) (D R : List (List Int)), v1 = .int .i64 a ∧ v5 = .int .i64 i ∧ i + kq = n ∧ Aside0 (D.length = i) ∧ Aside0 (R.length = n - i) ∧ Aside0 (∃ R2, markSS k R a = some (r1, R2) ∧ r2 = D ++ R2) ∧ Aside0 (Kd.S (Kd.slice 2 (Kd.int .i64)) 37 w' w0.heap.size P (.slice A n c) (D ++ R)) ∧ Aside0 (Below w0.heap.size w0 w') ∧ Aside0 (Kept w w' P))
  case atStart => exact ⟨0, a1, [], LS, rfl, rfl, by omega, ⟨rfl⟩, ⟨by rw [HN.out]; rfl⟩, ⟨r2, HM.out, rfl⟩, HS, HB, HK⟩
  case round =>
    clear HM HS HB HK
    obtain ⟨i, a, D, R, rfl, rfl, hik, HD, HR, HM, HS, HB, HK⟩ := hrel
    by_cases hi : i < n
    · obtain ⟨kq, rfl⟩ : ∃ q, gk = q + 1 := ⟨gk - 1, by omega⟩
      cases R with
      | nil => have := HR.out; simp at this; omega
      | cons L R =>
        obtain ⟨R2, hm, hr2⟩ := HM.out
        rw [markSS] at hm
        obtain ⟨⟨b, L2⟩, hm1, hm2⟩ := Option.bind_eq_some_iff.1 hm
        obtain ⟨⟨b2, R3⟩, hm3, hm4⟩ := Option.map_eq_some_iff.1 hm2
        simp only [Prod.mk.injEq] at hm4
        obtain ⟨rfl, rfl⟩ := hm4
        simp only at hm3 hr2
        have HM1 := Aside0.mk hm1
        have HM3 := Aside0.mk hm3
        have HR2 := Aside0.mk hr2
        have HRL := Aside0.mk (show R.length = n - (i + 1) by have := HR.out; simp at this; omega)
        clear hm hm1 hm2 hm3 hr2 HM
        obtain ⟨g, cap, ef, _, _, _⟩ := Kd.S_form HS.out (by rw [List.length_append, List.length_cons]; omega)
        obtain ⟨rfl, en, rfl⟩ : A = some ⟨g, 0, none⟩ ∧ n = (D ++ L :: R).length ∧ c = cap := by injection ef with h1 h2 h3; exact ⟨h1, h2, h3⟩
        clear ef en
        obtain ⟨oki, cs, hcl, hM, hcc, hoki, hH⟩ := Kd.S_lend HS.out [] (i : Int) (by omega) (by omega)
        rw [Int.toNat_natCast, get_mid D L [] R i HD.out] at hM
        obtain ⟨vi, rfl, hRi⟩ := hM
        have hx := hcc 0 vi rfl
        rw [Int.toNat_natCast, show (Kd.slice 2 (Kd.int .i64)).sz = 1 from rfl, Nat.mul_one, Nat.add_zero] at hx
        obtain ⟨Ai, ci, rfl⟩ := Kd.R_slice hRi
        have HRi := Aside0.mk hRi
        have HH := Aside0.mk hH
        have HOK := Aside0.mk hoki
        have hxa : wr.cell? ⟨g, i, none⟩ = some (.slice Ai L.length ci) := hx
        have CM := Aside0.mk (fun (hw : True) => laws_markInt64S.calls k oki (.slice Ai L.length ci) L a b L2 w0 wr HB.out HRi.out HM1.out)
        clear hcl hcc hoki hH hRi hx
        have hgo : (Value.slice Ai L.length ci).ownBlock = (Value.slice Ai L.length ci).ownBlock := rfl
        generalize hq : L.length = q at *
        clear hgo
        go_wp2_with fail
        refine (CM.out trivial).mono ?_
        rintro e w2 ⟨rfl, hR2, hB2, hK2⟩
        have HB2 := Aside0.mk hB2
        have hp : ∀ k, oki k → P k := fun k hk => (HOK.out k hk).1
        have HK2 := Aside0.mk (HK.out.then_ hK2 (fun k hk => .inl (hp k hk)))
        have HS2 := Aside0.mk (show Kd.S (Kd.slice 2 (Kd.int .i64)) 37 w2 w0.heap.size P (.slice (some ⟨g, 0, none⟩) n c) ((D ++ [L2]) ++ R) by
          have h1 := Kd.H_kept HH.out hK2 (fun k _ hn hk => hn hk)
          have h2 := Kd.R_mono (ok' := oki) (Kd.R_tight rfl hR2) (fun k hk => HRi.out.1 k hk.symm)
          have h3 := Kd.H_back h1 (x' := L2) (okp := oki) ⟨_, rfl, h2⟩ (fun k hk => hk)
          rw [Int.toNat_natCast, set_mid D L L2 R i HD.out] at h3
          exact h3)
        clear hR2 hB2 hK2 hp CM HRi HH HOK
        go_wp2_with fail
        go_roundg kq
        case measure => omega
        case rel => exact ⟨i + 1, b, D ++ [L2], R, rfl, by first | rfl | simp, by omega, ⟨by rw [List.length_append, HD.out]; rfl⟩, HRL, ⟨R3, HM3.out, by rw [HR2.out, List.append_assoc]; rfl⟩, HS2, HB2, HK2⟩
    · have him : i = n := by omega
      subst him
      have hR0 : R = [] := List.length_eq_zero_iff.1 (by rw [HR.out, Nat.sub_self])
      subst hR0
      obtain ⟨R2, hm, hr2⟩ := HM.out
      rw [markSS] at hm
      simp only [Option.some.injEq, Prod.mk.injEq] at hm
      obtain ⟨rfl, rfl⟩ := hm
      subst hr2
      clear HM
      go_wp2
      go_ret
      exact ⟨rfl, HS.out, HB.out, HK.out⟩

set_option maxHeartbeats 8000000 in
set_option maxRecDepth 1000000 in
theorem markClassS_calls (k : Nat) (P : Nat → Prop) (v : Value) (LS : List S41) (a1 r1 : Int) (r2 : List S41) (w0 w : World) (hlen : LS.length ≤ 1000000000) (hB : Below w0.heap.size w0 w) (ho : Kd.S k41 41 w w0.heap.size P v LS) (h : markCS k LS a1 = some (r1, r2)) :
    Calls Try.prog 30 #[v, .int .i64 a1] w fun e w' => e = .returned (.int .i64 r1) ∧ Kd.S k41 41 w' w0.heap.size P v r2 ∧ Below w0.heap.size w0 w' ∧ Kept w w' P := by
  have HM := Aside0.mk h
  have HS := Aside0.mk ho
  have HB := Aside0.mk hB
  have HK := Aside0.mk (Kept.refl w P)
  clear h ho hB
  obtain ⟨A, c, rfl⟩ := Kd.S_slice HS.out
  obtain ⟨n, hn⟩ : ∃ n, LS.length = n := ⟨_, rfl⟩
  rw [hn] at hlen HS ⊢
  have HN := Aside0.mk hn
  clear hn
  go_enter Try.func30, Try.ntmps30
  go_wp2_with fail
  go_loopg [1, 5] n (fun kq v1 v5 w' => ∃ (i : Nat) (a : Int) (D R : List S41), v1 = .int .i64 a ∧ v5 = .int .i64 i ∧ i + kq = n ∧ Aside0 (D.length = i) ∧ Aside0 (R.length = n - i) ∧ Aside0 (∃ R2, markCS k R a = some (r1, R2) ∧ r2 = D ++ R2) ∧ Aside0 (Kd.S k41 41 w' w0.heap.size P (.slice A n c) (D ++ R)) ∧ Aside0 (Below w0.heap.size w0 w') ∧ Aside0 (Kept w w' P))
  case atStart => exact ⟨0, a1, [], LS, rfl, rfl, by omega, ⟨rfl⟩, ⟨by rw [HN.out]; rfl⟩, ⟨r2, HM.out, rfl⟩, HS, HB, HK⟩
  case round =>
    clear HM HS HB HK
    obtain ⟨i, a, D, R, rfl, rfl, hik, HD, HR, HM, HS, HB, HK⟩ := hrel
    by_cases hi : i < n
    · obtain ⟨kq, rfl⟩ : ∃ q, gk = q + 1 := ⟨gk - 1, by omega⟩
      cases R with
      | nil => have := HR.out; simp at this; omega
      | cons L R =>
        obtain ⟨R2, hm, hr2⟩ := HM.out
        rw [markCS] at hm
        obtain ⟨⟨b, L2⟩, hm1, hm2⟩ := Option.bind_eq_some_iff.1 hm
        obtain ⟨⟨b2, L3⟩, hm5, hm6⟩ := Option.bind_eq_some_iff.1 hm2
        obtain ⟨⟨b3, R3⟩, hm3, hm4⟩ := Option.map_eq_some_iff.1 hm6
        simp only [Prod.mk.injEq] at hm4
        obtain ⟨rfl, rfl⟩ := hm4
        simp only at hm3 hr2 hm5
        have HM1 := Aside0.mk hm1
        have HM5 := Aside0.mk hm5
        have HM3 := Aside0.mk hm3
        have HR2 := Aside0.mk hr2
        have HRL := Aside0.mk (show R.length = n - (i + 1) by have := HR.out; simp at this; omega)
        clear hm hm1 hm2 hm3 hm5 hm6 hr2 HM
        obtain ⟨g, cap, ef, _, _, _⟩ := Kd.S_form HS.out (by rw [List.length_append, List.length_cons]; omega)
        obtain ⟨rfl, en, rfl⟩ : A = some ⟨g, 0, none⟩ ∧ n = (D ++ L :: R).length ∧ c = cap := by injection ef with h1 h2 h3; exact ⟨h1, h2, h3⟩
        clear ef en
        obtain ⟨oki, cs, hcl, hM, hcc, hoki, hH⟩ := Kd.S_lend HS.out (⟨[], []⟩ : S41) (i : Int) (by omega) (by omega)
        rw [Int.toNat_natCast, get_mid D L _ R i HD.out] at hM
        obtain ⟨va, vb, rfl, hRa, hRb⟩ := k41_openM hM
        have hx0 := hcc 0 va rfl
        have hx1 := hcc 1 vb rfl
        rw [Int.toNat_natCast, show k41.sz = 2 from rfl] at hx0 hx1
        obtain ⟨Aa, ca, rfl⟩ := Kd.R_slice hRa
        obtain ⟨Ab, cb, rfl⟩ := Kd.R_slice hRb
        have HRa := Aside0.mk (Kd.R_tight rfl hRa)
        have HRb := Aside0.mk (Kd.R_tight rfl hRb)
        have HTa := Aside0.mk (Kd.R_typed hRa)
        have HTb := Aside0.mk (Kd.R_typed hRb)
        have HOa := Aside0.mk hRa.1
        have HOb := Aside0.mk hRb.1
        have HH := Aside0.mk hH
        have HOK := Aside0.mk hoki
        have hxa : wr.cell? ⟨g, i * 2, none⟩ = some (.slice Aa L.f0.length ca) := by rw [Nat.add_zero] at hx0; exact hx0
        have HXB := Aside0.mk (show wr.cell? ⟨g, i * 2 + 1, none⟩ = some (.slice Ab L.f1.length cb) from hx1)
        have CM := Aside0.mk (fun (hw : True) => laws_markInt64S.calls k _ (.slice Aa L.f0.length ca) L.f0 a b L2 w0 wr HB.out HRa.out HM1.out)
        have CA := Aside0.mk (fun w2 (hb : Below w0.heap.size w0 w2) hr => laws_markAttrS.calls k (fun k => some k = (Value.slice Ab L.f1.length cb).ownBlock) (.slice Ab L.f1.length cb) L.f1 b b2 L3 w0 w2 hb hr HM5.out)
        clear hcl hcc hoki hH hRa hRb hM hx0 hx1
        have HAB := Aside0.mk (show ∀ k, some k = (Value.slice Aa L.f0.length ca).ownBlock → some k ≠ (Value.slice Ab L.f1.length cb).ownBlock from fun k h1 h2 => by
          obtain ⟨c1, e1⟩ := HTa.out k h1.symm
          obtain ⟨c2, e2⟩ := HTb.out k h2.symm
          rw [e1] at e2
          injection e2 with e2
          injection e2 with _ e2
          exact absurd e2 (by decide))
        generalize hq : L.f0.length = q at *
        generalize hq2 : L.f1.length = q2 at *
        go_wp2_with fail
        refine (CM.out trivial).mono ?_
        rintro e w2 ⟨rfl, hR2, hB2, hK2⟩
        have HB2 := Aside0.mk hB2
        have hxb : w2.cell? ⟨g, i * 2 + 1, none⟩ = some (.slice Ab q2 cb) := cell_kept HXB.out hK2 (fun h1 => (HOK.out g (HOa.out g h1.symm)).2 rfl)
        have CA2 := Aside0.mk (CA.out w2 hB2 (Kd.R_kept HRb.out hK2 (fun k h1 h2 => HAB.out k h2 h1)))
        have HRA2 := Aside0.mk (Kd.R_tight rfl hR2)
        have HKA := Aside0.mk hK2
        have HH2 := Aside0.mk (Kd.H_kept HH.out hK2 (fun k _ hn hk => hn (HOa.out k hk.symm)))
        clear hR2 hB2 hK2 CM CA
        go_wp2_with fail
        refine CA2.out.mono ?_
        rintro e w3 ⟨rfl, hR3, hB3, hK3⟩
        have HB3 := Aside0.mk hB3
        have HK3 := Aside0.mk ((HK.out.then_ HKA.out (fun k hk => .inl (HOK.out k (HOa.out k hk.symm)).1)).then_ hK3 (fun k hk => .inl (HOK.out k (HOb.out k hk.symm)).1))
        have HS2 := Aside0.mk (show Kd.S k41 41 w3 w0.heap.size P (.slice (some ⟨g, 0, none⟩) n c) ((D ++ [(⟨L2, L3⟩ : S41)]) ++ R) by
          have h1 := Kd.H_kept HH2.out hK3 (fun k _ hn hk => hn (HOb.out k hk.symm))
          have h2 := Kd.R_mono (ok' := oki) (Kd.R_kept HRA2.out hK3 (fun k h1 h2 => HAB.out k h1 h2)) (fun k hk => HOa.out k hk.symm)
          have h2b := Kd.R_mono (ok' := oki) (Kd.R_tight rfl hR3) (fun k hk => HOb.out k hk.symm)
          have h3 := Kd.H_back h1 (x' := (⟨L2, L3⟩ : S41)) (okp := oki) (k41_mkM _ _ _ ⟨L2, L3⟩ h2 h2b) (fun k hk => hk)
          rw [Int.toNat_natCast, set_mid D L _ R i HD.out] at h3
          exact h3)
        clear hR3 hB3 hK3 CA2 HRA2 HKA HH2 HH HRa HRb HTa HTb HOa HOb HOK HAB HXB
        go_wp2_with fail
        go_roundg kq
        case measure => omega
        case rel => exact ⟨i + 1, b2, D ++ [⟨L2, L3⟩], R, rfl, by first | rfl | simp, by omega, ⟨by rw [List.length_append, HD.out]; rfl⟩, HRL, ⟨R3, HM3.out, by rw [HR2.out, List.append_assoc]; rfl⟩, HS2, HB3, HK3⟩
    · have him : i = n := by omega
      subst him
      have hR0 : R = [] := List.length_eq_zero_iff.1 (by rw [HR.out, Nat.sub_self])
      subst hR0
      obtain ⟨R2, hm, hr2⟩ := HM.out
      rw [markCS] at hm
      simp only [Option.some.injEq, Prod.mk.injEq] at hm
      obtain ⟨rfl, rfl⟩ := hm
      subst hr2
      clear HM
      go_wp2
      go_ret
      exact ⟨rfl, HS.out, HB.out, HK.out⟩

end Go.Proofs.Ytkclfbmgnhmkhaa.PC
