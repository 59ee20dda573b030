/- What TextJoin of the program comes to, over the shelf's contracts of utf8.ValidString and strings.Join. No condition beyond those of the theorems. -/
import Derived.Test.YtfgiodolgmfdoaaDoorJoinZ
namespace Go.Proofs.YtfgiodolgmfdoaaDoor.PT
open Go.RowKit Go.Shelf Go.Proofs.YtfgiodolgmfdoaaDoorW.PrintWords Go.Proofs.YtfgiodolgmfdoaaDoorW.PrintLast
set_option linter.unusedVariables false
set_option linter.unusedSimpArgs false

theorem X156 : Builder.Extra Tryd.prog Tryd.lays156_ren := { sizeBuilder := by kernel_rfl, liesBuilder := by kernel_rfl, t5 := Tryd.underlying5, a5 := Tryd.isAgg5, z5 := Tryd.sizeOf5, v5 := Tryd.zeroValue5, infoByte := by kernel_rfl, cellsByte := by kernel_rfl, sizeByte := by kernel_rfl, neB5 := by decide }

/-- The bytes of a join. -/
def joinD (sep : ByteArray) (l : List ByteArray) : List UInt8 := Lib.join (l.map (·.data.toList)) sep.data.toList
/-- What both tell of a joining. -/
def joinA (sep : ByteArray) (l : List ByteArray) : ByteArray × Int :=
  if okB sep = true ∧ (∀ x ∈ l, okB x = true) then (if 16384 < (joinD sep l).length then (⟨#[]⟩, 3) else (⟨(joinD sep l).toArray⟩, 0)) else (⟨#[]⟩, 1)

def impl_TextJoin.f (sep : ByteArray) (l : List ByteArray) : Option (ByteArray × Int) :=
  if sep.size ≤ 1048576 ∧ (∀ x ∈ l, x.size ≤ 1048576) ∧ l.length ≤ 1048576 then some (joinA sep l) else none

theorem joinD_snoc (sep : ByteArray) (l : List ByteArray) (i : Nat) (x : ByteArray) (h : l[i]? = some x) :
    (joinD sep (l.take (i + 1))).length = (joinD sep (l.take i)).length + (if i = 0 then 0 else sep.size) + x.size := by
  have hd : ∀ y : ByteArray, y.data.toList.length = y.size := data_length
  cases l with
  | nil => simp at h
  | cons y r =>
    cases i with
    | zero =>
      simp at h
      subst h
      simp [joinD, Lib.join_one, Lib.join_nil, hd]
    | succ i =>
      have h' : r[i]? = some x := by simpa using h
      have h2 : (r.map (·.data.toList))[i]? = some x.data.toList := by rw [List.getElem?_map, h']; rfl
      unfold joinD
      rw [List.take_succ_cons, List.take_succ_cons, List.map_cons, List.map_cons, Lib.join_cons, Lib.join_cons, List.map_take, List.map_take, Lib.joinTail_take_succ _ _ _ _ h2]
      simp [List.length_append, hd]
      omega

theorem spot_of_R {α : Type} {d : Kd α} {e : Nat} {w : World} {base : Nat} {ok : Nat → Prop} {ad : Addr} {n c : Nat} {xs : List α} (h : d.R e w base ok (.slice (some ad) n c) xs) : ad.spot = none := by
  obtain ⟨inner, ho⟩ := Kd.R_own h
  rcases ho.2 with ⟨h, _⟩ | ⟨g, cap, cur, h, _⟩
  · cases h
  · cases h
    rfl

theorem joinCall (sep : ByteArray) (A1 : Option Addr) (c1 : Nat) (l : List ByteArray) (w : World) (hsp : ∀ ad, A1 = some ad → ad.spot = none) (hC : Kd.C Kd.string w A1 l.length l) (hc : l.length ≤ c1) (hN : l.length ≤ 1048576) (hlen : (joinD sep l).length ≤ 1000000) :
    Calls Tryd.prog 59 #[.slice A1 l.length c1, .string sep] w fun e w' => e = .returned (.string ⟨(joinD sep l).toArray⟩) ∧ Below w.heap.size w w' := by
  by_cases h0 : l.length = 0
  · obtain rfl : l = [] := List.length_eq_zero_iff.1 h0
    exact (Any.strings_Join_none Tryd.lays156 X156 A1 c1 sep w).mono fun e w' ⟨he, hw⟩ => ⟨he, hw ▸ Below.refl _ _⟩
  · obtain ⟨ad, rfl, hcell⟩ := (Kd.reads_of_C (enc := Value.string) (d := ByteArray.empty) (h1 := fun _ => rfl) hC).2.2 (by omega)
    obtain ⟨bk, o, sp⟩ := ad
    have hs := hsp _ rfl
    simp only at hs
    subst hs
    have hcells : ∀ (j : Nat) x, l[j]? = some x → w.cell? ⟨bk, o + j, none⟩ = some (.string x) := by
      intro j x hx
      have hj : j < l.length := (List.getElem?_eq_some_iff.1 hx).1
      have h := hcell j hj
      have e : (⟨bk, o, none⟩ : Addr).add j = ⟨bk, o + j, none⟩ := by
        unfold Addr.add
        split
        · rename_i hz
          rw [hz]
          rfl
        · rfl
      rw [e] at h
      rw [h]
      simp [List.getD_eq_getElem?_getD, hx]
    have hbk : bk < w.heap.size := World.block_lt_of_cell? _ _ (hcells 0 (l.getD 0 ByteArray.empty) (by rw [List.getD_eq_getElem?_getD]; cases l with | nil => simp at h0 | cons a t => rfl))
    exact Any.strings_Join Tryd.lays156 X156 bk o c1 l sep w hcells hbk (by omega) hc (by have : (Lib.join (l.map (·.data.toList)) sep.data.toList).length ≤ 1000000 := hlen; omega)

set_option maxHeartbeats 4000000 in
set_option maxRecDepth 1000000 in
theorem impl_TextJoin.calls (a0 : ByteArray) (A1 : Option Addr) (c1 : Nat) (l1 : List ByteArray) (r1 : ByteArray) (r2 : Int) (w : World) (hr1 : Kd.C Kd.string w A1 l1.length l1) (hc1 : l1.length ≤ c1) (h : impl_TextJoin.f a0 l1 = some (r1, r2)) (hT : Tabs w) (hsp : ∀ ad, A1 = some ad → ad.spot = none) :
    Calls Tryd.prog 23 #[.string a0, .slice A1 l1.length c1] w fun e w' => e = .returned (.tuple #[.string r1, .int .i64 r2]) ∧ Below w.heap.size w w' := by
  unfold impl_TextJoin.f at h
  split at h
  case isFalse => simp at h
  rename_i hcond
  obtain ⟨q0, q1, q2⟩ := hcond
  have h := Option.some.inj h
  have C0 := Aside0.mk (implOk_calls a0 w (by omega) hT)
  have Q1 := Aside0.mk q1
  have HT := Aside0.mk hT
  have HC := Aside0.mk hr1
  have SP := Aside0.mk hsp
  clear hT q1 hr1 hsp
  unfold joinA at h
  have hz0 := fun h => okB_size (s := a0) h
  generalize okB a0 = V0 at *
  cases V0 with
  | false =>
    rw [if_neg (by simp)] at h
    simp only [Prod.mk.injEq] at h
    obtain ⟨rfl, rfl⟩ := h
    clear hz0
    have cO := C0.out
    go_enter Tryd.func23, Tryd.ntmps23
    go_wp2_with fail
    refine cO.mono ?_
    rintro e w1 ⟨rfl, hb⟩
    go_wp2
    go_ret2
    exact ⟨rfl, hb⟩
  | true =>
    have hz0 := hz0 rfl
    have H := Aside0.mk h
    clear h
    have HCC := Aside0.mk (fun (w1 : World) (hb : Below w.heap.size w w1) (hlen : (joinD a0 l1).length ≤ 1000000) => joinCall a0 A1 c1 l1 w1 SP.out (Kd.C_below HC.out hb) hc1 q2 hlen)
    generalize hN : l1.length = n at *
    have HN := Aside0.mk hN
    clear hN
    have cO := C0.out
    clear C0
    go_enter Tryd.func23, Tryd.ntmps23
    go_wp2_with fail
    refine cO.mono ?_
    rintro e w1 ⟨rfl, hb⟩
    have HB := Aside0.mk hb
    clear hb cO
    go_wp2_with fail
    go_loopg [6, 14] n (fun kq v6 v14 w' => ∃ i : Nat, v14 = .int .i64 i ∧ i + kq = n ∧ v6 = .int .i64 ((joinD a0 (l1.take i)).length : Nat) ∧ Aside0 (∀ x ∈ l1.take i, okB x = true) ∧ Aside0 ((joinD a0 (l1.take i)).length ≤ i * 32768) ∧ Aside0 (Below w.heap.size w w'))
    case atStart => exact ⟨0, rfl, by omega, rfl, ⟨by simp⟩, ⟨by simp [joinD, Lib.join_nil]⟩, HB⟩
    case round =>
      clear HB
      obtain ⟨i, rfl, hik, rfl, HO, HL, HB⟩ := hrel
      by_cases hi : i < n
      · obtain ⟨hdrop, hmem⟩ := rdOf_at l1 i (by rw [HN.out]; exact hi)
        have hx? : l1[i]? = some (l1.getD i ByteArray.empty) := by
          have : i < l1.length := by rw [HN.out]; exact hi
          simp [List.getD_eq_getElem?_getD, List.getElem?_eq_getElem this]
        have HJ := Aside0.mk (joinD_snoc a0 l1 i _ hx?)
        have hxs := Q1.out _ hmem
        obtain ⟨ad, rfl, hcell⟩ := (Kd.reads_of_C (enc := Value.string) (d := ByteArray.empty) (h1 := fun _ => rfl) (Kd.C_below HC.out HB.out)).2.2 (by omega)
        have x0 := hcell i hi
        have HM := Aside0.mk hmem
        have htk : l1.take (i + 1) = l1.take i ++ [l1.getD i ByteArray.empty] := by
          rw [List.take_add_one, hx?]
          rfl
        have HTK := Aside0.mk htk
        clear hcell hdrop hmem hx? htk
        generalize l1.getD i ByteArray.empty = x at *
        generalize hm : (joinD a0 (l1.take i)).length = m at *
        clear hm
        obtain ⟨kq, rfl⟩ : ∃ q, gk = q + 1 := ⟨gk - 1, by omega⟩
        have cO := implOk_calls x wr (by omega) (HT.out.below HB.out)
        have hzx := fun h => okB_size (s := x) h
        have HX := Aside0.mk (rfl : okB x = okB x)
        cases hV : okB x with
        | false =>
          have hres : r1 = ⟨#[]⟩ ∧ r2 = 1 := by
            have h1 := H.out
            rw [if_neg (fun hh => by have := hh.2 x HM.out; rw [hV] at this; cases this)] at h1
            simp only [Prod.mk.injEq] at h1
            exact ⟨h1.1.symm, h1.2.symm⟩
          obtain ⟨rfl, rfl⟩ := hres
          rw [hV] at cO
          clear hzx HX hV
          go_wp2_with fail
          refine cO.mono ?_
          rintro e w2 ⟨rfl, hb⟩
          have HB2 := Aside0.mk (below_step HB.out hb)
          clear hb cO
          go_wp2
          go_ret2
          exact ⟨rfl, HB2.out⟩
        | true =>
          have hzx := hzx hV
          rw [hV] at cO
          have hO2 : ∀ y ∈ l1.take (i + 1), okB y = true := by
            intro y hy
            rw [HTK.out] at hy
            rcases List.mem_append.1 hy with hy | hy
            · exact HO.out y hy
            · rw [List.mem_singleton] at hy
              rw [hy]
              exact hV
          have HO2 := Aside0.mk hO2
          clear HX hV hO2
          have hml := HL.out
          by_cases hz : i = 0
          · have hnz : ¬ ((0 : Int) < (i : Int)) := by omega
            have hJ2 := HJ.out
            rw [if_pos hz] at hJ2
            have HJ2 := Aside0.mk hJ2
            clear hz hJ2 HJ
            go_wp2_with fail
            refine cO.mono ?_
            rintro e w2 ⟨rfl, hb⟩
            have HB2 := Aside0.mk (below_step HB.out hb)
            clear hb cO
            go_wp2_with fail
            go_roundg kq
            case measure => omega
            case rel => exact ⟨i + 1, by first | rfl | simp, by omega, by rw [HJ2.out]; first | rfl | simp | (congr 1; omega), HO2, ⟨by rw [HJ2.out]; omega⟩, HB2⟩
          · have hnz : (0 : Int) < (i : Int) := by omega
            have hJ2 := HJ.out
            rw [if_neg hz] at hJ2
            have HJ2 := Aside0.mk hJ2
            clear hz hJ2 HJ
            go_wp2_with fail
            refine cO.mono ?_
            rintro e w2 ⟨rfl, hb⟩
            have HB2 := Aside0.mk (below_step HB.out hb)
            clear hb cO
            go_wp2_with fail
            go_roundg kq
            case measure => omega
            case rel => exact ⟨i + 1, by first | rfl | simp, by omega, by rw [HJ2.out]; first | rfl | simp | (congr 1; omega), HO2, ⟨by rw [HJ2.out]; omega⟩, HB2⟩
      · have htk : l1.take i = l1 := List.take_of_length_le (by rw [HN.out]; omega)
        rw [htk] at HL HO ⊢
        have hml := HL.out
        have h1 := H.out
        rw [if_pos ⟨by first | rfl | trivial, HO.out⟩] at h1
        generalize hD : joinD a0 l1 = D at *
        clear hD htk H HO
        by_cases hbig : 16384 < D.length
        · have hbigz : (16384 : Int) < (D.length : Int) := by omega
          rw [if_pos hbig] at h1
          simp only [Prod.mk.injEq] at h1
          obtain ⟨rfl, rfl⟩ := h1
          go_wp2
          go_ret2
          exact ⟨rfl, HB.out⟩
        · have hbigz : ¬ (16384 : Int) < (D.length : Int) := by omega
          rw [if_neg hbig] at h1
          simp only [Prod.mk.injEq] at h1
          obtain ⟨rfl, rfl⟩ := h1
          have cO := HCC.out wr HB.out (by omega)
          clear HCC
          go_wp2_with fail
          refine cO.mono ?_
          rintro e w2 ⟨rfl, hb⟩
          have HB2 := Aside0.mk (below_step HB.out hb)
          clear hb cO
          go_wp2
          go_ret2
          exact ⟨rfl, HB2.out⟩

end Go.Proofs.YtfgiodolgmfdoaaDoor.PT
