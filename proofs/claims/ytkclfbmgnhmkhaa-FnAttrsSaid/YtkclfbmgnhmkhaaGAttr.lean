/- What yattr of the program comes to. No condition beyond those of the theorems. -/
import Derived.Test.YtkclfbmgnhmkhaaGLin
namespace Go.Proofs.Ytkclfbmgnhmkhaa.PC
open Go.RowKit Go.Proofs.YtkclfbmgnhmkhaaW.PrintWords Go.Proofs.YtkclfbmgnhmkhaaW.PrintLast Go.Proofs.YtkclfbmgnhmkhaaW.PrintMore
set_option linter.unusedVariables false
set_option linter.unusedSimpArgs false

def hit (n : ByteArray) (a : S48) : Bool := a.f0.toList == n.toList
def firstAt (l0 : List S41) (n : ByteArray) : List Int → Option S48
  | [] => none
  | c :: r => match (rd_T41 l0 c).f1.find? (hit n) with
    | some a => some a
    | none => firstAt l0 n r
def zRes : ByteArray × Int × Int × Bool × Bool := (⟨#[]⟩, 0, 0, false, false)
def resOf : Option S48 → ByteArray × Int × Int × Bool × Bool
  | some a => (a.f0, a.f1, a.f2, true, true)
  | none => (⟨#[]⟩, 0, 0, false, true)
def impl_yattr.f (l0 : List S41) (a1 : Int) (l2 : List S48) (a3 : ByteArray) : Option (ByteArray × Int × Int × Bool × Bool) :=
  (impl_ClassesOk.f l0).bind fun ok => if ok = false then some zRes else if a1 < 0 then some zRes else if (l0.length : Int) ≤ a1 then some zRes else
    (impl_yunlike.f l2).bind fun u => if u = false then some zRes else (impl_ylines.f l0).bind fun ls => if a1 < (ls.length : Int) then
      (if ls.getD a1.toNat [] = [] then some zRes else if ((ls.getD a1.toNat []).length ≤ 1000000000 ∧ (∀ c ∈ ls.getD a1.toNat [], 0 ≤ c ∧ c < (l0.length : Int)) ∧ ∀ c ∈ l0, c.f1.length ≤ 1000000000) then some (resOf (firstAt l0 a3 (ls.getD a1.toNat []))) else none) else none

theorem results_row2 {P : Program} {fn : Func} {p u v : Tmp} {ty : TypeId} (h : fn.results = #[.cell p ty, .tmp u, .tmp v]) (tmps : Array Value) (w : World) (g : Nat) (t : TypeId) (cs : Array Value) (fr : Nat × Nat) (d : TypeDesc)
    (hp : tmps.getD p undef = .pointer (some ⟨g, 0, none⟩)) (hg : w.heap[g]? = some (.cells cs t fr))
    (hu : P.underlying ty = some d) (hd : (match d with | .struct _ | .array _ _ => true | _ => false) = true) (hi : (P.info? ty).map (·.size) = some cs.size) :
    (results fn tmps).run P w = .ok (.tuple #[.agg cs, tmps.getD u undef, tmps.getD v undef]) w := by
  have hp' : tmps[p]?.getD undef = .pointer (some ⟨g, 0, none⟩) := by simpa using hp
  simp [results, h, hp', asAddr, run_loadVar_row w g t ty cs fr d hg hu hd hi]

theorem find_drop (l : List S48) (n : ByteArray) (i : Nat) (h : i < l.length) : (l.drop i).find? (hit n) = if hit n l[i] = true then some l[i] else (l.drop (i + 1)).find? (hit n) := by
  rw [List.drop_eq_getElem_cons h, List.find?_cons]
  cases hit n l[i] <;> rfl
theorem first_drop (l0 : List S41) (n : ByteArray) (l : List Int) (i : Nat) (h : i < l.length) : firstAt l0 n (l.drop i) = match (rd_T41 l0 l[i]).f1.find? (hit n) with
    | some a => some a
    | none => firstAt l0 n (l.drop (i + 1)) := by
  rw [List.drop_eq_getElem_cons h, firstAt]

set_option maxHeartbeats 8000000 in
set_option maxRecDepth 1000000 in
theorem impl_yattr.calls (A0 : Option Addr) (c0 : Nat) (l0 : List S41) (a1 : Int) (A2 : Option Addr) (c2 : Nat) (l2 : List S48) (a3 : ByteArray) (r1 : ByteArray) (r2 r3 : Int) (r4 r5 : Bool) (w : World) (hr0 : Kd.C k41 w A0 l0.length l0) (hc0 : l0.length ≤ c0) (hr2 : Kd.C k48 w A2 l2.length l2) (hc2 : l2.length ≤ c2) (h : impl_yattr.f l0 a1 l2 a3 = some (r1, r2, r3, r4, r5)) :
    Calls Try.prog 49 #[.slice A0 l0.length c0, .int .i64 a1, .slice A2 l2.length c2, .string a3] w fun e w' => e = .returned (.tuple #[.agg #[.string r1, .int .i64 r2, .int .i64 r3], .bool r4, .bool r5]) ∧ Below w.heap.size w w' := by
  unfold impl_yattr.f at h
  obtain ⟨ok, hok, h⟩ := Option.bind_eq_some_iff.1 h
  have C0 := Aside0.mk (fun W (hW : Kd.C k41 W A0 l0.length l0) => impl_ClassesOk.calls A0 c0 l0 ok W hW hc0 hok)
  have HC0 := Aside0.mk hr0
  have HC2 := Aside0.mk hr2
  clear hok hr0 hr2
  have CY := Aside0.mk (fun ls W (hW : Kd.C k41 W A0 l0.length l0) hl => ylines_calls A0 c0 l0 ls W hW hc0 hl)
  have CU := Aside0.mk (fun u W (hW : Kd.C k48 W A2 l2.length l2) hu => impl_yunlike.calls A2 c2 l2 u W hW hc2 hu)
  obtain ⟨n, hn⟩ : ∃ n, l0.length = n := ⟨_, rfl⟩
  obtain ⟨n2, hn2⟩ : ∃ n, l2.length = n := ⟨_, rfl⟩
  have HN := Aside0.mk hn
  have HN2 := Aside0.mk hn2
  rw [hn] at C0 HC0 CY hc0 h ⊢
  rw [hn2] at CU HC2 hc2 ⊢
  clear hn hn2
  cases ok with
  | false =>
    rw [if_pos rfl] at h
    have h := Option.some.inj h
    simp only [zRes, Prod.mk.injEq] at h
    obtain ⟨rfl, rfl, rfl, rfl, rfl⟩ := h
    go_enter Try.func49, Try.ntmps49
    go_wp2_with (first | ((with_reducible refine gate_dst (N := 8) rfl ?_); refine box_event ?hg (N := 8) ?hd (cs := #[.string (⟨#[]⟩ : ByteArray), .int .i64 0, .int .i64 0]) (t := 48) ?hr ?_; (case hd => rfl); (case hg => rfl); (case hr => first | (go_simp; done) | (go_simp; rfl)); intro gb hg w1 hbox hb; have BK := Aside0.mk hbox; have HB := Aside0.mk hb; have GE := Aside0.mk (show w.heap.size ≤ gb by rw [hg]; exact Nat.le_refl _); clear hb hbox hg))
    refine (C0.out _ (Kd.C_below HC0.out HB.out)).mono ?_
    rintro e w2 ⟨rfl, hb⟩
    have BK2 := Aside0.mk (blk_below BK.out hb)
    have HB2 := Aside0.mk (below_step HB.out hb)
    clear hb BK HB
    have BK := BK2
    have HB := HB2
    clear BK2 HB2
    have x0 : w2.cell? ⟨gb, 0, none⟩ = some (.string (⟨#[]⟩ : ByteArray)) := (blk_cell BK.out 0).trans rfl
    have x1 : w2.cell? ⟨gb, 1, none⟩ = some (.int .i64 0) := (blk_cell BK.out 1).trans rfl
    have x2 : w2.cell? ⟨gb, 2, none⟩ = some (.int .i64 0) := (blk_cell BK.out 2).trans rfl
    go_wp2
    (try simp only [Exit.inBlock, Exit.then])
    (try rw [Exit.noGoto_ret])
    refine bodyPost_ret (results_row2 rfl _ _ gb 48 #[.string (⟨#[]⟩ : ByteArray), .int .i64 0, .int .i64 0] (0, 0) _ rfl BK.out Try.underlying48 rfl (by kernel_rfl)) rfl ?_
    exact ⟨rfl, HB.out⟩
  | true =>
    rw [if_neg (by decide)] at h
    by_cases hneg : a1 < 0
    · rw [if_pos hneg] at h
      have h := Option.some.inj h
      simp only [zRes, Prod.mk.injEq] at h
      obtain ⟨rfl, rfl, rfl, rfl, rfl⟩ := h
      go_enter Try.func49, Try.ntmps49
      go_wp2_with (first | ((with_reducible refine gate_dst (N := 8) rfl ?_); refine box_event ?hg (N := 8) ?hd (cs := #[.string (⟨#[]⟩ : ByteArray), .int .i64 0, .int .i64 0]) (t := 48) ?hr ?_; (case hd => rfl); (case hg => rfl); (case hr => first | (go_simp; done) | (go_simp; rfl)); intro gb hg w1 hbox hb; have BK := Aside0.mk hbox; have HB := Aside0.mk hb; have GE := Aside0.mk (show w.heap.size ≤ gb by rw [hg]; exact Nat.le_refl _); clear hb hbox hg))
      refine (C0.out _ (Kd.C_below HC0.out HB.out)).mono ?_
      rintro e w2 ⟨rfl, hb⟩
      have BK2 := Aside0.mk (blk_below BK.out hb)
      have HB2 := Aside0.mk (below_step HB.out hb)
      clear hb BK HB
      have BK := BK2
      have HB := HB2
      clear BK2 HB2
      have x0 : w2.cell? ⟨gb, 0, none⟩ = some (.string (⟨#[]⟩ : ByteArray)) := (blk_cell BK.out 0).trans rfl
      have x1 : w2.cell? ⟨gb, 1, none⟩ = some (.int .i64 0) := (blk_cell BK.out 1).trans rfl
      have x2 : w2.cell? ⟨gb, 2, none⟩ = some (.int .i64 0) := (blk_cell BK.out 2).trans rfl
      go_wp2
      (try simp only [Exit.inBlock, Exit.then])
      (try rw [Exit.noGoto_ret])
      refine bodyPost_ret (results_row2 rfl _ _ gb 48 #[.string (⟨#[]⟩ : ByteArray), .int .i64 0, .int .i64 0] (0, 0) _ rfl BK.out Try.underlying48 rfl (by kernel_rfl)) rfl ?_
      exact ⟨rfl, HB.out⟩
    rw [if_neg hneg] at h
    by_cases hge : (n : Int) ≤ a1
    · rw [if_pos hge] at h
      have h := Option.some.inj h
      simp only [zRes, Prod.mk.injEq] at h
      obtain ⟨rfl, rfl, rfl, rfl, rfl⟩ := h
      go_enter Try.func49, Try.ntmps49
      go_wp2_with (first | ((with_reducible refine gate_dst (N := 8) rfl ?_); refine box_event ?hg (N := 8) ?hd (cs := #[.string (⟨#[]⟩ : ByteArray), .int .i64 0, .int .i64 0]) (t := 48) ?hr ?_; (case hd => rfl); (case hg => rfl); (case hr => first | (go_simp; done) | (go_simp; rfl)); intro gb hg w1 hbox hb; have BK := Aside0.mk hbox; have HB := Aside0.mk hb; have GE := Aside0.mk (show w.heap.size ≤ gb by rw [hg]; exact Nat.le_refl _); clear hb hbox hg))
      refine (C0.out _ (Kd.C_below HC0.out HB.out)).mono ?_
      rintro e w2 ⟨rfl, hb⟩
      have BK2 := Aside0.mk (blk_below BK.out hb)
      have HB2 := Aside0.mk (below_step HB.out hb)
      clear hb BK HB
      have BK := BK2
      have HB := HB2
      clear BK2 HB2
      have x0 : w2.cell? ⟨gb, 0, none⟩ = some (.string (⟨#[]⟩ : ByteArray)) := (blk_cell BK.out 0).trans rfl
      have x1 : w2.cell? ⟨gb, 1, none⟩ = some (.int .i64 0) := (blk_cell BK.out 1).trans rfl
      have x2 : w2.cell? ⟨gb, 2, none⟩ = some (.int .i64 0) := (blk_cell BK.out 2).trans rfl
      go_wp2
      (try simp only [Exit.inBlock, Exit.then])
      (try rw [Exit.noGoto_ret])
      refine bodyPost_ret (results_row2 rfl _ _ gb 48 #[.string (⟨#[]⟩ : ByteArray), .int .i64 0, .int .i64 0] (0, 0) _ rfl BK.out Try.underlying48 rfl (by kernel_rfl)) rfl ?_
      exact ⟨rfl, HB.out⟩
    rw [if_neg hge] at h
    obtain ⟨u, hu, h⟩ := Option.bind_eq_some_iff.1 h
    have C2 := Aside0.mk (fun W hW => CU.out u W hW hu)
    clear hu CU
    cases u with
    | false =>
      rw [if_pos rfl] at h
      have h := Option.some.inj h
      simp only [zRes, Prod.mk.injEq] at h
      obtain ⟨rfl, rfl, rfl, rfl, rfl⟩ := h
      go_enter Try.func49, Try.ntmps49
      go_wp2_with (first | ((with_reducible refine gate_dst (N := 8) rfl ?_); refine box_event ?hg (N := 8) ?hd (cs := #[.string (⟨#[]⟩ : ByteArray), .int .i64 0, .int .i64 0]) (t := 48) ?hr ?_; (case hd => rfl); (case hg => rfl); (case hr => first | (go_simp; done) | (go_simp; rfl)); intro gb hg w1 hbox hb; have BK := Aside0.mk hbox; have HB := Aside0.mk hb; have GE := Aside0.mk (show w.heap.size ≤ gb by rw [hg]; exact Nat.le_refl _); clear hb hbox hg))
      refine (C0.out _ (Kd.C_below HC0.out HB.out)).mono ?_
      rintro e w2 ⟨rfl, hb⟩
      have BK2 := Aside0.mk (blk_below BK.out hb)
      have HB2 := Aside0.mk (below_step HB.out hb)
      clear hb BK HB
      have BK := BK2
      have HB := HB2
      clear BK2 HB2
      go_wp2_with fail
      refine (C2.out _ (Kd.C_below HC2.out HB.out)).mono ?_
      rintro e w3 ⟨rfl, hb⟩
      have BK2 := Aside0.mk (blk_below BK.out hb)
      have HB2 := Aside0.mk (below_step HB.out hb)
      clear hb BK HB
      have BK := BK2
      have HB := HB2
      clear BK2 HB2
      have x0 : w3.cell? ⟨gb, 0, none⟩ = some (.string (⟨#[]⟩ : ByteArray)) := (blk_cell BK.out 0).trans rfl
      have x1 : w3.cell? ⟨gb, 1, none⟩ = some (.int .i64 0) := (blk_cell BK.out 1).trans rfl
      have x2 : w3.cell? ⟨gb, 2, none⟩ = some (.int .i64 0) := (blk_cell BK.out 2).trans rfl
      go_wp2
      (try simp only [Exit.inBlock, Exit.then])
      (try rw [Exit.noGoto_ret])
      refine bodyPost_ret (results_row2 rfl _ _ gb 48 #[.string (⟨#[]⟩ : ByteArray), .int .i64 0, .int .i64 0] (0, 0) _ rfl BK.out Try.underlying48 rfl (by kernel_rfl)) rfl ?_
      exact ⟨rfl, HB.out⟩
    | true =>
      rw [if_neg (by decide)] at h
      obtain ⟨ls, hls, h⟩ := Option.bind_eq_some_iff.1 h
      have C3 := Aside0.mk (fun W hW => CY.out ls W hW hls)
      clear hls CY
      split at h
      case isFalse => simp at h
      rename_i hlt
      obtain ⟨ka, rfl⟩ : ∃ k : Nat, a1 = (k : Int) := ⟨a1.toNat, by omega⟩
      rw [Int.toNat_natCast] at h
      have hka : ka < ls.length := by omega
      have HRES := Aside0.mk h
      clear h
      go_enter Try.func49, Try.ntmps49
      go_wp2_with (first | ((with_reducible refine gate_dst (N := 8) rfl ?_); refine box_event ?hg (N := 8) ?hd (cs := #[.string (⟨#[]⟩ : ByteArray), .int .i64 0, .int .i64 0]) (t := 48) ?hr ?_; (case hd => rfl); (case hg => rfl); (case hr => first | (go_simp; done) | (go_simp; rfl)); intro gb hg w1 hbox hb; have BK := Aside0.mk hbox; have HB := Aside0.mk hb; have GE := Aside0.mk (show w.heap.size ≤ gb by rw [hg]; exact Nat.le_refl _); clear hb hbox hg))
      refine (C0.out _ (Kd.C_below HC0.out HB.out)).mono ?_
      rintro e w2 ⟨rfl, hb⟩
      have BK2 := Aside0.mk (blk_below BK.out hb)
      have HB2 := Aside0.mk (below_step HB.out hb)
      clear hb BK HB
      have BK := BK2
      have HB := HB2
      clear BK2 HB2
      go_wp2_with fail
      refine (C2.out _ (Kd.C_below HC2.out HB.out)).mono ?_
      rintro e w3 ⟨rfl, hb⟩
      have BK2 := Aside0.mk (blk_below BK.out hb)
      have HB2 := Aside0.mk (below_step HB.out hb)
      clear hb BK HB
      have BK := BK2
      have HB := HB2
      clear BK2 HB2
      go_wp2_with fail
      refine (C3.out _ (Kd.C_below HC0.out HB.out)).mono ?_
      rintro e w4 ⟨v, rfl, hS, hb⟩
      obtain ⟨Ao, co, rfl⟩ := Kd.S_slice hS
      obtain ⟨ao, A1, c1, rfl, z0, z1, z2⟩ := kN_at (Kd.S_reads' hS).2.2 ka hka
      have BK2 := Aside0.mk (blk_below BK.out hb)
      have HB2 := Aside0.mk (below_step HB.out hb)
      clear hb BK HB hS C0 C2 C3
      have BK := BK2
      have HB := HB2
      clear BK2 HB2
      obtain ⟨line, hline⟩ : ∃ L, ls.getD ka [] = L := ⟨_, rfl⟩
      rw [hline] at HRES z0 z1 z2
      clear hline
      by_cases hnil : line = []
      · obtain ⟨rfl, rfl⟩ := z2 hnil
        have h := HRES.out
        rw [if_pos hnil] at h
        have h := Option.some.inj h
        simp only [zRes, Prod.mk.injEq] at h
        obtain ⟨rfl, rfl, rfl, rfl, rfl⟩ := h
        rw [hnil] at z0
        simp only [List.length_nil] at z0
        clear HRES z1 z2 hnil
        have heq := eql37 none 0 0
        simp only [Option.isNone_none] at heq
        have x0 : w4.cell? ⟨gb, 0, none⟩ = some (.string (⟨#[]⟩ : ByteArray)) := (blk_cell BK.out 0).trans rfl
        have x1 : w4.cell? ⟨gb, 1, none⟩ = some (.int .i64 0) := (blk_cell BK.out 1).trans rfl
        have x2 : w4.cell? ⟨gb, 2, none⟩ = some (.int .i64 0) := (blk_cell BK.out 2).trans rfl
        go_wp2
        (try simp only [Exit.inBlock, Exit.then])
        (try rw [Exit.noGoto_ret])
        refine bodyPost_ret (results_row2 rfl _ _ gb 48 #[.string (⟨#[]⟩ : ByteArray), .int .i64 0, .int .i64 0] (0, 0) _ rfl BK.out Try.underlying48 rfl (by kernel_rfl)) rfl ?_
        exact ⟨rfl, HB.out⟩
      · have h := HRES.out
        rw [if_neg hnil] at h
        split at h
        case isFalse => simp at h
        rename_i hpre
        obtain ⟨hp1, hp2, hp3⟩ := hpre
        have HRR := Aside0.mk (Option.some.inj h)
        have HP2 := Aside0.mk hp2
        have HP3 := Aside0.mk hp3
        clear h hp2 hp3 z2 HRES
        have hA1 : ∃ a1, A1 = some a1 := by
          have hpos : 0 < line.length := List.length_pos_iff.2 hnil
          obtain ⟨a1, e1, _⟩ := Kd.at_int z1.2.2 0 (by omega) (by simpa using hpos)
          exact ⟨a1, e1⟩
        obtain ⟨al, rfl⟩ := hA1
        have HL1 := Aside0.mk z1
        clear z1 hnil
        obtain ⟨m, hm⟩ : ∃ m, line.length = m := ⟨_, rfl⟩
        have HM := Aside0.mk hm
        rw [hm] at z0 HL1 hp1
        clear hm
        have heq := eql37 (some al) m c1
        simp only [Option.isNone_some] at heq
        go_wp2_with fail
        have HB4 := Aside0.mk (Below.refl w4.heap.size w4)
        have hwb := HB.out.size
        have HL4 := HL1
        clear heq z0
        go_loopg [9, 10, 43] m (fun kq v9 v10 v43 w' => v9 = .bool false ∧ v10 = .bool false ∧ ∃ i : Nat, v43 = .int .i64 i ∧ i + kq = m ∧ Aside0 (resOf (firstAt l0 a3 (line.drop i)) = (r1, r2, r3, r4, r5)) ∧ Aside0 (Below w4.heap.size w4 w') ∧ Aside0 (w'.heap[gb]? = some (.cells #[.string (⟨#[]⟩ : ByteArray), .int .i64 0, .int .i64 0] 48)))
        case atStart => exact ⟨rfl, rfl, 0, rfl, by omega, ⟨by rw [List.drop_zero]; exact HRR.out⟩, HB4, BK⟩
        case round =>
          clear HRR HB4 BK
          obtain ⟨rfl, rfl, i, rfl, hik, HRR, HB4, BK⟩ := hrel
          by_cases hi : i < m
          · obtain ⟨kq, rfl⟩ : ∃ q, gk = q + 1 := ⟨gk - 1, by omega⟩
            obtain ⟨al', eal, y0⟩ := Kd.at_int (Kd.C_below HL1.out.2.2 HB4.out) (i : Int) (by omega) (by rw [HM.out]; omega)
            obtain rfl := Option.some.inj eal
            have hiL : i < line.length := by rw [HM.out]; exact hi
            rw [rdI line i hiL, Int.toNat_natCast] at y0
            have hrr := HRR.out
            rw [first_drop l0 a3 line i hiL] at hrr
            have hcr := HP2.out _ (List.getElem_mem hiL)
            obtain ⟨cl, hcl⟩ : ∃ c : Nat, line[i] = (c : Int) := ⟨(line[i]).toNat, by omega⟩
            rw [hcl] at y0 hrr hcr
            clear hcl hiL
            obtain ⟨ad, B0, d0, B1, d1, rfl, q0, q1, e0, g0, e1, g1⟩ := at_T41 (Kd.C_below HC0.out (below_step HB.out HB4.out)) (cl : Int) (by omega) (by omega)
            have hclL : cl < l0.length := by rw [HN.out]; omega
            have hle := HP3.out _ (List.getElem_mem hclL)
            rw [rd41 l0 cl hclL] at hrr
            rw [rd41 l0 cl hclL, Int.toNat_natCast] at q0
            rw [rd41 l0 cl hclL, Int.toNat_natCast] at q1
            rw [rd41 l0 cl hclL] at e0 g0 e1 g1
            obtain ⟨C, hC⟩ : ∃ C, l0[cl] = C := ⟨_, rfl⟩
            rw [hC] at q0 q1 e0 g0 e1 g1 hle hrr
            obtain ⟨bs, as_⟩ := C
            simp only at q0 q1 e0 g0 e1 g1 hle hrr
            clear hC hclL g0
            have hcn : cl < n := by omega
            have HRR1 := Aside0.mk hrr
            have G1 := Aside0.mk g1
            obtain ⟨na, hna⟩ : ∃ na, as_.length = na := ⟨_, rfl⟩
            have HNA := Aside0.mk hna
            rw [hna] at q1 e1 G1 hle
            obtain ⟨nb, hnb⟩ : ∃ nb, bs.length = nb := ⟨_, rfl⟩
            rw [hnb] at q0 e0
            clear hna g1 hrr hnb
            go_wp2_with fail
            generalize wr = wi at *
            have HB5 := Aside0.mk (Below.refl wi.heap.size wi)
            clear q0 q1 y0
            go_loopg [9, 10, 53] na (fun kq2 v9 v10 v53 w' => v9 = .bool false ∧ v10 = .bool false ∧ ∃ j : Nat, v53 = .int .i64 j ∧ j + kq2 = na ∧ Aside0 ((as_.drop j).find? (hit a3) = as_.find? (hit a3)) ∧ Aside0 (Below wi.heap.size wi w') ∧ Aside0 (w'.heap[gb]? = some (.cells #[.string (⟨#[]⟩ : ByteArray), .int .i64 0, .int .i64 0] 48)))
            case atStart => exact ⟨rfl, rfl, 0, rfl, by omega, ⟨by rw [List.drop_zero]⟩, HB5, BK⟩
            case round =>
              clear HB5 BK
              obtain ⟨rfl, rfl, j, rfl, hjk, HF, HB5, BK⟩ := hrel
              by_cases hj : j < na
              · obtain ⟨kq2, rfl⟩ : ∃ q, gk = q + 1 := ⟨gk - 1, by omega⟩
                obtain ⟨ae, rfl, y0, y1, y2⟩ := at_T48 (Kd.C_below G1.out HB5.out) (j : Int) (by omega) (by omega)
                have hjL : j < as_.length := by rw [HNA.out]; exact hj
                rw [rd48 as_ j hjL, Int.toNat_natCast] at y0
                rw [rd48 as_ j hjL, Int.toNat_natCast] at y1
                rw [rd48 as_ j hjL, Int.toNat_natCast] at y2
                have hf := HF.out
                rw [find_drop as_ a3 j hjL] at hf
                obtain ⟨at_, hat⟩ : ∃ a, as_[j] = a := ⟨_, rfl⟩
                rw [hat] at hf y0 y1 y2
                obtain ⟨an, ak, av⟩ := at_
                simp only at y0 y1 y2
                clear hat hjL
                have GBL := blk_lt BK.out
                by_cases hh : (an.toList == a3.toList) = true
                · have hfin : resOf (some ⟨an, ak, av⟩) = (r1, r2, r3, r4, r5) := by
                    rw [if_pos (show hit a3 ⟨an, ak, av⟩ = true from hh)] at hf
                    have h1 := HRR1.out
                    rw [← hf] at h1
                    exact h1
                  simp only [resOf, Prod.mk.injEq] at hfin
                  obtain ⟨rfl, rfl, rfl, rfl, rfl⟩ := hfin
                  clear hf HF HRR1
                  have x0 : wr.cell? ⟨gb, 0, none⟩ = some (.string (⟨#[]⟩ : ByteArray)) := (blk_cell BK.out 0).trans rfl
                  have x1 : wr.cell? ⟨gb, 1, none⟩ = some (.int .i64 0) := (blk_cell BK.out 1).trans rfl
                  have x2 : wr.cell? ⟨gb, 2, none⟩ = some (.int .i64 0) := (blk_cell BK.out 2).trans rfl
                  have f0 := blk_frozen BK.out 0
                  have f1 := blk_frozen BK.out 1
                  have f2 := blk_frozen BK.out 2
                  have HBE := Aside0.mk (below_step HB.out (below_step HB4.out HB5.out))
                  go_wp2
                  (try simp only [Exit.inBlock, Exit.then])
                  (try rw [Exit.noGoto_ret])
                  refine bodyPost_ret (results_row2 rfl _ _ gb 48 #[.string an, .int .i64 ak, .int .i64 av] (0, 0) _ rfl (by (with_reducible repeat (first | refine blk_alloc ?_ _)); refine blk_put (cs := #[.string an, .int .i64 ak, .int .i64 0]) ?_ 2 _ rfl; refine blk_put (cs := #[.string an, .int .i64 0, .int .i64 0]) ?_ 1 _ rfl; refine blk_put (cs := #[.string (⟨#[]⟩ : ByteArray), .int .i64 0, .int .i64 0]) ?_ 0 _ rfl; (with_reducible repeat (first | refine blk_alloc ?_ _)); exact BK.out) Try.underlying48 rfl (by kernel_rfl)) rfl ?_
                  exact ⟨rfl, by repeat (first | (with_reducible first | exact HBE.out | apply below_alloc | refine below_set ?_ GE.out) | exact HBE.out)⟩
                · have hh2 : (an.toList == a3.toList) = false := by simpa using hh
                  have HF2 := Aside0.mk (show (as_.drop (j + 1)).find? (hit a3) = as_.find? (hit a3) by
                    rw [if_neg (show ¬ hit a3 ⟨an, ak, av⟩ = true from hh)] at hf
                    exact hf)
                  clear hf HF hh
                  go_wp2_with fail
                  go_roundg kq2
                  case measure => omega
                  case rel => exact ⟨rfl, rfl, j + 1, by first | rfl | simp, by omega, HF2, ⟨below_alloc HB5.out _⟩, ⟨blk_alloc BK.out _⟩⟩
              · have hjn : j = na := by omega
                subst hjn
                have HRR2 := Aside0.mk (show resOf (firstAt l0 a3 (line.drop (i + 1))) = (r1, r2, r3, r4, r5) by
                  have h1 := HRR1.out
                  rw [← HF.out, List.drop_eq_nil_iff.2 (by rw [HNA.out]; exact Nat.le_refl _)] at h1
                  exact h1)
                go_wp2_with fail
                go_roundg kq
                case measure => omega
                case rel => exact ⟨rfl, rfl, i + 1, by first | rfl | simp, by omega, HRR2, ⟨below_step HB4.out HB5.out⟩, BK⟩
          · have him : i = m := by omega
            subst him
            have hfin : resOf none = (r1, r2, r3, r4, r5) := by
              have h1 := HRR.out
              rw [List.drop_eq_nil_iff.2 (by rw [HM.out]; exact Nat.le_refl _)] at h1
              exact h1
            simp only [resOf, Prod.mk.injEq] at hfin
            obtain ⟨rfl, rfl, rfl, rfl, rfl⟩ := hfin
            clear HRR
            have x0 : wr.cell? ⟨gb, 0, none⟩ = some (.string (⟨#[]⟩ : ByteArray)) := (blk_cell BK.out 0).trans rfl
            have x1 : wr.cell? ⟨gb, 1, none⟩ = some (.int .i64 0) := (blk_cell BK.out 1).trans rfl
            have x2 : wr.cell? ⟨gb, 2, none⟩ = some (.int .i64 0) := (blk_cell BK.out 2).trans rfl
            have f0 := blk_frozen BK.out 0
            have f1 := blk_frozen BK.out 1
            have f2 := blk_frozen BK.out 2
            have HBE := Aside0.mk (below_step HB.out HB4.out)
            go_wp2
            (try simp only [Exit.inBlock, Exit.then])
            (try rw [Exit.noGoto_ret])
            refine bodyPost_ret (results_row2 rfl _ _ gb 48 #[.string (⟨#[]⟩ : ByteArray), .int .i64 0, .int .i64 0] (0, 0) _ rfl (by (with_reducible repeat (first | refine blk_alloc ?_ _)); refine blk_put (cs := #[.string (⟨#[]⟩ : ByteArray), .int .i64 0, .int .i64 0]) ?_ 2 _ rfl; refine blk_put (cs := #[.string (⟨#[]⟩ : ByteArray), .int .i64 0, .int .i64 0]) ?_ 1 _ rfl; refine blk_put (cs := #[.string (⟨#[]⟩ : ByteArray), .int .i64 0, .int .i64 0]) ?_ 0 _ rfl; (with_reducible repeat (first | refine blk_alloc ?_ _)); exact BK.out) Try.underlying48 rfl (by kernel_rfl)) rfl ?_
            exact ⟨rfl, by repeat (first | (with_reducible first | exact HBE.out | apply below_alloc | refine below_set ?_ GE.out) | exact HBE.out)⟩

end Go.Proofs.Ytkclfbmgnhmkhaa.PC
