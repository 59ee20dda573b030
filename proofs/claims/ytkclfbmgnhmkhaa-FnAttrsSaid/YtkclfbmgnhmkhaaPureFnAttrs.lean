/- At every code the answers about attributes are as the law FnAttrs says. Plain law; no condition beyond the code's size. -/
import Derived.Test.YtkclfbmgnhmkhaaGFnA
import Derived.Test.YtkclfbmgnhmkhaaPureFnExactAttrGet
import Derived.Test.YtkclfbmgnhmkhaaDrawZ
import Derived.Test.YtkclfbmgnhmkhaaLinS
namespace Go.Proofs.Ytkclfbmgnhmkhaa.Pure
open Go.RowKit Go.Proofs.Ytkclfbmgnhmkhaa.PC Go.Proofs.YtkclfbmgnhmkhaaW.PrintWords Go.Proofs.YtkclfbmgnhmkhaaW.PrintLast
set_option linter.unusedVariables false
set_option linter.unusedSimpArgs false

theorem drawAttr_some (L : List Int) (h : Rdr L 0) (k : Nat) (hk : 50000000 ≤ k) : ∃ l a1 O n, spec_DrawAttrGet.f k L = some (l, a1, O, n) ∧ l.length ≤ 300 ∧ okD l ∧ O.length ≤ 4 := by
  unfold spec_DrawAttrGet.f spec_l1Open.f
  obtain ⟨l, p1, e1, hl, ho, h1⟩ := draw_good L 0 h k hk
  rw [Option.bind_some]
  dsimp only
  rw [e1, Option.bind_some]
  dsimp only
  obtain ⟨v, p2, e2, _, _, h2⟩ := below_some h1 (wrap64 ((l.length : Int) + 1))
  rw [e2, Option.bind_some]
  dsimp only
  obtain ⟨b, p3, e3, h3⟩ := once_some h2 10
  rw [e3, Option.bind_some]
  dsimp only
  obtain ⟨O, p4, e4, hO, h4⟩ := attrs_draw h3 k (by omega)
  obtain ⟨u, p5, e5, _, _, h5⟩ := below_some h4 5
  cases b with
  | true =>
    rw [if_pos rfl, e4, Option.bind_some]
    dsimp only
    rw [e5, Option.bind_some]
    exact ⟨_, _, _, _, rfl, hl, ho, hO⟩
  | false =>
    rw [if_neg (by decide), e4, Option.bind_some]
    dsimp only
    rw [e5, Option.bind_some]
    exact ⟨_, _, _, _, rfl, hl, ho, hO⟩

theorem okFrom_take : ∀ (l : List S41) (i m : Nat), okFrom i l = true → okFrom i (l.take m) = true
  | [], _, m, _ => by simp [okFrom]
  | c :: r, i, 0, _ => by simp [okFrom]
  | c :: r, i, m + 1, h => by
    rw [okFrom, Bool.and_eq_true] at h
    rw [List.take_succ_cons, okFrom, Bool.and_eq_true]
    exact ⟨h.1, okFrom_take r (i + 1) m h.2⟩
theorem okCls_take {l : List S41} (h : okCls l = true) (m : Nat) : okCls (l.take m) = true := by
  unfold okCls at h ⊢
  rw [Bool.and_eq_true, decide_eq_true_eq] at h ⊢
  exact ⟨by rw [List.length_take]; omega, okFrom_take l 0 m h.2⟩
theorem lines_prefix : ∀ (l : List S41) (i m : Nat) (out r : List (List Int)), linesFrom l i out = some r → out.length = i → linesFrom (l.take m) i out = some (r.take (i + (l.take m).length))
  | [], i, m, out, r, h, ho => by
    rw [linesFrom] at h
    obtain rfl := Option.some.inj h
    simp only [List.take_nil, linesFrom, List.length_nil, Nat.add_zero, ← ho, List.take_length]
  | c :: t, i, 0, out, r, h, ho => by
    obtain ⟨h1, _⟩ := lines_take _ _ _ _ h ho
    simp only [List.take_zero, linesFrom, List.length_nil, Nat.add_zero, h1]
  | c :: t, i, m + 1, out, r, h, ho => by
    rw [linesFrom] at h
    obtain ⟨L, h1, h2⟩ := Option.bind_eq_some_iff.1 h
    rw [List.take_succ_cons, linesFrom, h1, Option.bind_some, lines_prefix t (i + 1) m _ r h2 (by rw [List.length_append, ho]; rfl), List.length_cons]
    congr 2
    omega
theorem ylines_take {l : List S41} {r : List (List Int)} (h : impl_ylines.f l = some r) (m : Nat) (hm : m ≤ l.length) : impl_ylines.f (l.take m) = some (r.take m) := by
  unfold impl_ylines.f at h ⊢
  split at h
  case isFalse => simp at h
  rename_i hok
  rw [if_pos ⟨okCls_take hok.1 m, fun c hc => hok.2 c (List.mem_of_mem_take hc)⟩]
  have h1 := lines_prefix l 0 m [] r h rfl
  rw [List.length_take, Nat.min_eq_left hm, Nat.zero_add] at h1
  exact h1
theorem mro_all2 (ls : List (List Int)) : ∀ (L : List (List Int)) (i : Nat), (mroRes ls L i = (ls, -1)) ∨ ∃ j, j < L.length ∧ L.getD j [] = [] ∧ mroRes ls L i = ([], ((i + j : Nat) : Int))
  | [], i => Or.inl rfl
  | x :: r, i => by
    rw [mroRes]
    by_cases e : x.isEmpty = true
    · rw [if_pos e]
      rw [List.isEmpty_iff] at e
      exact Or.inr ⟨0, by simp, by rw [e]; rfl, rfl⟩
    · rw [if_neg e]
      rcases mro_all2 ls r (i + 1) with h1 | ⟨j, h1, h2, h3⟩
      · exact Or.inl h1
      · exact Or.inr ⟨j + 1, by simp; omega, h2, by rw [h3, show i + 1 + j = i + (j + 1) by omega]⟩

theorem hit_name {n : ByteArray} {a : S48} : hit n a = true ↔ a.f0 = n := by
  unfold hit
  rw [beq_iff_eq]
  exact toL _ _
theorem lastIn_none (n : ByteArray) : ∀ (l : List S48) (b : S48), (∀ a ∈ l, hit n a ≠ true) → lastIn n b l = b
  | [], b, _ => rfl
  | a :: r, b, h => by
    rw [lastIn, if_neg (h a (List.mem_cons_self ..))]
    exact lastIn_none n r b (fun x hx => h x (List.mem_cons_of_mem _ hx))
theorem lastIn_find (n : ByteArray) : ∀ (l : List S48) (b : S48), (namesOf l).Nodup → lastIn n b l = match l.find? (hit n) with | some a => a | none => b
  | [], b, _ => rfl
  | a :: r, b, h => by
    have h1 : (a.f0 :: namesOf r).Nodup := h
    rw [List.nodup_cons] at h1
    rw [lastIn, List.find?_cons]
    by_cases e : hit n a = true
    · rw [if_pos e, e]
      refine lastIn_none n r a (fun x hx hx2 => h1.1 ?_)
      rw [hit_name.1 e, ← hit_name.1 hx2]
      exact List.mem_map.2 ⟨x, hx, rfl⟩
    · rw [if_neg e, Bool.eq_false_iff.2 e]
      exact lastIn_find n r b h1.2
def boxOf : Option S48 → S48
  | some a => a
  | none => ⟨⟨#[]⟩, -1, 0⟩
theorem lineBox_first (l : List S41) (n : ByteArray) (h : ∀ c ∈ l, (namesOf c.f1).Nodup) : ∀ (line : List Int), (∀ c ∈ line, 0 ≤ c ∧ c < (l.length : Int)) → lineBox l n line = boxOf (firstAt l n line)
  | [], _ => rfl
  | c :: r, hr => by
    have hc := hr c (List.mem_cons_self ..)
    obtain ⟨m, rfl⟩ : ∃ m : Nat, c = (m : Int) := ⟨c.toNat, by omega⟩
    have hm : m < l.length := by omega
    rw [lineBox, firstAt, rd41 l m hm, lastIn_find n _ _ (h _ (List.getElem_mem hm)), lineBox_first l n h r (fun x hx => hr x (List.mem_cons_of_mem _ hx))]
    cases l[m].f1.find? (hit n) <;> rfl
theorem mine_pos (n : ByteArray) (O : List S48) : ∀ (j m : Nat), mineOf n O j = (m : Int) → m < j ∧ hit n (O.getD m ⟨⟨#[]⟩, 0, 0⟩) = true
  | 0, m, h => by
    rw [mineOf] at h
    omega
  | j + 1, m, h => by
    rw [mineOf] at h
    split at h
    · rename_i e
      obtain rfl : j = m := by omega
      exact ⟨by omega, e⟩
    · have := mine_pos n O j m h
      exact ⟨by omega, this.2⟩
theorem mine_neg (n : ByteArray) (O : List S48) : ∀ (j : Nat), mineOf n O j < 0 → ∀ i, i < j → hit n (O.getD i ⟨⟨#[]⟩, 0, 0⟩) ≠ true
  | 0, _, i, hi => by omega
  | j + 1, h, i, hi => by
    rw [mineOf] at h
    split at h
    · omega
    · rename_i e
      by_cases e2 : i = j
      · subst e2
        exact e
      · exact mine_neg n O j h i (by omega)
theorem mine_ge (n : ByteArray) (O : List S48) : ∀ (j : Nat), -1 ≤ mineOf n O j
  | 0 => Int.le_refl _
  | j + 1 => by
    rw [mineOf]
    split
    · omega
    · exact mine_ge n O j
theorem own_find (n : ByteArray) (O : List S48) (h : (namesOf O).Nodup) : (∃ m : Nat, mineOf n O O.length = (m : Int) ∧ m < O.length ∧ O.find? (hit n) = some (O.getD m ⟨⟨#[]⟩, 0, 0⟩)) ∨ (mineOf n O O.length < 0 ∧ O.find? (hit n) = none) := by
  by_cases hn : mineOf n O O.length < 0
  · refine Or.inr ⟨hn, List.find?_eq_none.2 fun x hx => ?_⟩
    obtain ⟨i, hi, rfl⟩ := List.getElem_of_mem hx
    have := mine_neg n O _ hn i hi
    rw [List.getD_eq_getElem?_getD, List.getElem?_eq_getElem hi] at this
    exact this
  · obtain ⟨m, hm⟩ : ∃ m : Nat, mineOf n O O.length = (m : Int) := ⟨(mineOf n O O.length).toNat, by omega⟩
    obtain ⟨h1, h2⟩ := mine_pos n O _ m hm
    refine Or.inl ⟨m, hm, h1, ?_⟩
    rw [List.getD_eq_getElem?_getD, List.getElem?_eq_getElem h1] at h2 ⊢
    simp only [Option.getD_some] at h2 ⊢
    cases e : O.find? (hit n) with
    | none => exact absurd h2 (List.find?_eq_none.1 e _ (List.getElem_mem h1))
    | some b =>
      have hb := List.find?_some e
      obtain ⟨q, hq, hqe⟩ := List.getElem_of_mem (List.mem_of_find?_eq_some e)
      have hnm : b.f0 = O[m].f0 := by rw [hit_name.1 hb, hit_name.1 h2]
      have hqm : q = m := by
        rcases Nat.lt_trichotomy q m with h3 | h3 | h3
        · have h4 := List.pairwise_iff_getElem.1 h q m (by simpa [namesOf] using hq) (by simpa [namesOf] using h1) h3
          simp only [namesOf, List.getElem_map] at h4
          exact absurd (by rw [hqe]; exact hnm) h4
        · exact h3
        · have h4 := List.pairwise_iff_getElem.1 h m q (by simpa [namesOf] using h1) (by simpa [namesOf] using hq) h3
          simp only [namesOf, List.getElem_map] at h4
          exact absurd (by rw [hqe]; exact hnm.symm) h4
      subst hqm
      rw [hqe]
theorem yattr_true {l : List S41} {a1 : Int} {O : List S48} {n : ByteArray} {o : Option S48} (h : impl_yattr.f l a1 O n = some (resOf o)) :
    okCls l = true ∧ 0 ≤ a1 ∧ a1 < (l.length : Int) ∧ (namesOf O).Nodup ∧ ∃ ls, impl_ylines.f l = some ls ∧ ls.getD a1.toNat [] ≠ [] ∧ o = firstAt l n (ls.getD a1.toNat []) := by
  have hz : ∀ o : Option S48, some zRes ≠ some (resOf o) := fun o e => by
    cases o with
    | none => simp [zRes, resOf] at e
    | some a => simp [zRes, resOf] at e
  have hinj : ∀ a b : Option S48, resOf a = resOf b → a = b := fun a b e => by
    cases a with
    | none =>
      cases b with
      | none => rfl
      | some b => simp [resOf] at e
    | some a =>
      cases b with
      | none => simp [resOf] at e
      | some b =>
        obtain ⟨a0, a1, a2⟩ := a
        obtain ⟨b0, b1, b2⟩ := b
        simp only [resOf, Prod.mk.injEq] at e
        obtain ⟨rfl, rfl, rfl, _⟩ := e
        rfl
  unfold impl_yattr.f at h
  obtain ⟨ok, e1, h⟩ := Option.bind_eq_some_iff.1 h
  cases ok with
  | false =>
    rw [if_pos rfl] at h
    exact absurd h (hz o)
  | true =>
    rw [if_neg (by decide)] at h
    have hok : okCls l = true := by
      unfold impl_ClassesOk.f at e1
      split at e1
      · exact Option.some.inj e1
      · simp at e1
    by_cases h0 : a1 < 0
    · rw [if_pos h0] at h
      exact absurd h (hz o)
    rw [if_neg h0] at h
    by_cases h1 : (l.length : Int) ≤ a1
    · rw [if_pos h1] at h
      exact absurd h (hz o)
    rw [if_neg h1] at h
    obtain ⟨u, e2, h⟩ := Option.bind_eq_some_iff.1 h
    cases u with
    | false =>
      rw [if_pos rfl] at h
      exact absurd h (hz o)
    | true =>
      rw [if_neg (by decide)] at h
      obtain ⟨ls, e3, h⟩ := Option.bind_eq_some_iff.1 h
      have hn : (namesOf O).Nodup := by
        unfold impl_yunlike.f at e2
        split at e2
        · exact (of_decide_eq_true (Option.some.inj e2)).1
        · simp at e2
      split at h
      case isFalse => simp at h
      by_cases hnil : ls.getD a1.toNat [] = []
      · rw [if_pos hnil] at h
        exact absurd h (hz o)
      · rw [if_neg hnil] at h
        split at h
        case isFalse => simp at h
        exact ⟨hok, by omega, by omega, hn, ls, e3, hnil, (hinj _ _ (Option.some.inj h)).symm⟩
theorem names_cls {l : List S41} (h : okCls l = true) : ∀ c ∈ l, (namesOf c.f1).Nodup ∧ c.f1.length ≤ 100 := by
  unfold okCls at h
  rw [Bool.and_eq_true, decide_eq_true_eq] at h
  intro c hc
  obtain ⟨j, hj, rfl⟩ := List.getElem_of_mem hc
  have h5 := okFrom_get l 0 h.2 j hj
  rw [Nat.zero_add] at h5
  unfold clsOk at h5
  simp only [Bool.and_eq_true, decide_eq_true_eq] at h5
  exact h5.1.2

def setOf : Option S48 → Int
  | some a => if a.f1 = 1 then 2 else 1
  | none => 1
theorem set_side (o : Option S48) (q : ByteArray × Int × Int × Bool × Bool) (hq : resOf o = q) : (if q.2.2.2.2 = true then (if q.2.2.2.1 = true then (if q.2.1 = 1 then (some (2 : Int)) else (some 1)) else (some 1)) else (some (-1))) = some (setOf o) := by
  subst hq
  cases o with
  | none => rfl
  | some a =>
    show (if a.f1 = 1 then some (2 : Int) else some 1) = some (if a.f1 = 1 then 2 else 1)
    split <;> rfl
theorem fna_ok (l : List S41) (ka : Nat) (O : List S48) (n : ByteArray) (line : List Int) (hok : okCls l = true) (hO : (namesOf O).Nodup) (hOl : O.length ≤ 1000000) (hll : line.length ≤ 1000000) (hr : ∀ c ∈ line, 0 ≤ c ∧ c < (l.length : Int)) :
    FnaOk l ka O n (ansG (firstAt l n line) O n).1 (ansG (firstAt l n line) O n).2 (setOf (firstAt l n line)) line := by
  have hnm := names_cls hok
  have hk := first_kind l n (cls_kinds hok) line hr
  have hb := lineBox_first l n (fun c hc => (hnm c hc).1) line hr
  refine ⟨hll, hr, fun c hc => by have := (hnm c hc).2; omega, hOl, ?_⟩
  rw [hb]
  clear hb
  have hf := own_find n O hO
  generalize firstAt l n line = o at *
  cases o with
  | none =>
    refine ⟨Or.inl ⟨rfl, by decide⟩, fun h => absurd h (by decide), fun _ m hm => ?_, fun _ hm => ⟨fun h => absurd h (by decide), fun h => absurd h (by decide), fun _ _ => ?_⟩⟩
    · rcases hf with ⟨m2, e1, e2, e3⟩ | ⟨e1, _⟩
      · obtain rfl : m2 = m := by omega
        unfold ansG
        rw [e3]
        exact ⟨e2, rfl, rfl⟩
      · omega
    · rcases hf with ⟨m2, e1, e2, e3⟩ | ⟨_, e3⟩
      · omega
      · unfold ansG
        rw [e3]
        exact ⟨rfl, rfl⟩
  | some a =>
    have hka := hk a rfl
    have e0 : ansG (some a) O n = ((if a.f1 = 1 then (3, a.f2) else (match O.find? (hit n) with | some b => (1, b.f2) | none => if a.f1 = 2 then (3, a.f2) else (2, a.f2))) : Int × Int) := rfl
    show ((if a.f1 = 1 then (2 : Int) else 1) = 1 ∧ a.f1 ≠ 1 ∨ (if a.f1 = 1 then (2 : Int) else 1) = 2 ∧ a.f1 = 1) ∧ (a.f1 = 1 → _ = 3 ∧ _ = a.f2) ∧ (a.f1 ≠ 1 → _) ∧ (a.f1 ≠ 1 → _)
    rw [e0]
    by_cases h1 : a.f1 = 1
    · rw [if_pos h1, if_pos h1]
      exact ⟨Or.inr ⟨rfl, h1⟩, fun _ => ⟨rfl, rfl⟩, fun h => absurd h1 h, fun h => absurd h1 h⟩
    · rw [if_neg h1, if_neg h1]
      refine ⟨Or.inl ⟨rfl, h1⟩, fun h => absurd h h1, fun _ m hm => ?_, fun _ hm => ?_⟩
      · rcases hf with ⟨m2, e1, e2, e3⟩ | ⟨e1, _⟩
        · obtain rfl : m2 = m := by omega
          rw [e3]
          exact ⟨e2, rfl, rfl⟩
        · omega
      · rcases hf with ⟨m2, e1, e2, e3⟩ | ⟨_, e3⟩
        · omega
        · rw [e3]
          dsimp only
          refine ⟨fun h => ?_, fun h => ?_, fun h h' => ?_⟩
          · have h : a.f1 = 2 := h
            rw [if_pos h]
            exact ⟨rfl, rfl⟩
          · have h : a.f1 = 0 := h
            rw [if_neg (by omega)]
            exact ⟨rfl, rfl⟩
          · have h : a.f1 ≠ 2 := h
            have h' : a.f1 ≠ 0 := h'
            omega
theorem ans_kind (o : Option S48) (O : List S48) (n : ByteArray) : (ansG o O n).1 ≠ -1 := by
  unfold ansG
  cases o with
  | none =>
    cases O.find? (hit n) <;> (intro h; simp at h)
  | some a =>
    dsimp only
    by_cases h1 : a.f1 = 1
    · rw [if_pos h1]; exact (by decide : (3 : Int) ≠ -1)
    · rw [if_neg h1]
      cases O.find? (hit n) with
      | some b => exact (by decide : (1 : Int) ≠ -1)
      | none =>
        dsimp only
        by_cases h2 : a.f1 = 2
        · rw [if_pos h2]; exact (by decide : (3 : Int) ≠ -1)
        · rw [if_neg h2]; exact (by decide : (2 : Int) ≠ -1)

theorem FnAttrs (L : List Int) (hl : L.length * 1 ≤ 140737488351232) (hw : ∀ x ∈ L, (Lit.int .u8 x).wf = true) : ∃ k, laws_big.f L = some true ∨ (laws_big.f L = some false ∧ ∃ (l : List S41) (a1 : Int) (O : List S48) (n : ByteArray) (kd v st : Int), spec_DrawAttrGet.f k L = some (l, a1, O, n) ∧ impl_AttrGet.f k l a1 O n = some (kd, v) ∧ impl_AttrSet.f l a1 O n = some st ∧ spec_AttrGet.f k l a1 O n = some (kd, v) ∧
      ((kd = -1 ∧ v = 0 ∧ st = -1) ∨ (kd ≠ -1 ∧ ∃ (ka : Nat) (r1 : List (List Int)) (bad : Int), a1 = (ka : Int) ∧ ka < l.length ∧ l.length ≤ 1000000 ∧ impl_Mro.f (l.take (ka + 1)) = some (r1, bad) ∧ ((0 ≤ bad ∧ bad ≠ (ka : Int)) ∨ (bad = -1 ∧ r1.length = ka + 1 ∧ FnaOk l ka O n kd v st (r1.getD ka [])))))) := by
  refine ⟨60000000, ?_⟩
  unfold laws_big.f
  by_cases hbig : (L.length : Int) > 1048576
  · rw [decide_eq_true hbig]
    exact Or.inl rfl
  rw [decide_eq_false hbig]
  refine Or.inr ⟨rfl, ?_⟩
  obtain ⟨l, a1, O, n, e, hl3, ho, hO⟩ := drawAttr_some L (Rdr.mk0 L (by omega) hw) 60000000 (by omega)
  have hsmall : ∀ c ∈ l, c.f0.length ≤ 1000000000000 ∧ c.f1.length ≤ 1000000000000 := fun c hc => by have := ho c hc; omega
  rcases args_same l O n a1 (by omega) hsmall (by omega) 60000000 (by omega) with ⟨x, e5, e6⟩ | ⟨line, e5, e6, h7, h8, h9⟩
  · refine ⟨l, a1, O, n, -1, 0, -1, e, ?_, ?_, ?_, Or.inl ⟨rfl, rfl, rfl⟩⟩
    · unfold impl_AttrGet.f
      rw [e6]
      rfl
    · unfold impl_AttrSet.f
      rw [e6]
      rfl
    · unfold spec_AttrGet.f
      rw [e5]
      rfl
  · obtain ⟨hok, ha0, ha1, hnO, ls, hls, hne, hfe⟩ := yattr_true e6
    obtain ⟨ka, rfl⟩ : ∃ ka : Nat, a1 = (ka : Int) := ⟨a1.toNat, by omega⟩
    rw [Int.toNat_natCast] at hne hfe
    have hL := fun fd p kd v => get_loop n fd O p kd v (by omega) O.length 59999999 0 (by omega) (by omega)
    simp only [List.drop_zero] at hL
    have hN := named_some O n (by omega) 60000000 (by omega)
    have hkind := first_kind l n (cls_kinds hok) line h8
    obtain ⟨ls2, hls2, hoo⟩ := ylines_some l hok
    obtain rfl : ls = ls2 := Option.some.inj (hls.symm.trans hls2)
    have hmem : ls.getD ka [] ∈ ls := by
      rw [List.getD_eq_getElem?_getD, List.getElem?_eq_getElem (show ka < ls.length by rw [hoo.1]; omega)]
      exact List.getElem_mem _
    obtain ⟨hnd, hrange⟩ := hoo.2 _ hmem
    have hpl := pigeon l.length _ hnd hrange
    refine ⟨l, (ka : Int), O, n, (ansG (firstAt l n line) O n).1, (ansG (firstAt l n line) O n).2, setOf (firstAt l n line), e, ?_, ?_, ?_, Or.inr ⟨ans_kind _ _ _, ka, ?_⟩⟩
    · unfold impl_AttrGet.f
      rw [e6, Option.bind_some]
      exact impl_side O n 59999999 hL _ _ rfl
    · unfold impl_AttrSet.f
      rw [e6, Option.bind_some]
      exact set_side _ _ rfl
    · unfold spec_AttrGet.f
      rw [e5, Option.bind_some, if_pos rfl, first_some l line n (by omega) h8 h9 60000000 (by omega), Option.bind_some]
      exact spec_side O n 60000000 hN _ hkind _ rfl
    · have hkl : ka + 1 ≤ l.length := by omega
      have hm : impl_Mro.f (l.take (ka + 1)) = some (mroRes (ls.take (ka + 1)) (ls.take (ka + 1)) 0) := by
        unfold impl_Mro.f
        have e7 : impl_ClassesOk.f (l.take (ka + 1)) = some true := by
          unfold impl_ClassesOk.f
          rw [if_pos ⟨by rw [List.length_take]; omega, fun c hc => hsmall c (List.mem_of_mem_take hc)⟩, okCls_take hok]
        rw [e7, Option.bind_some, if_neg (by decide), ylines_take hls (ka + 1) hkl, Option.bind_some, if_pos (by rw [List.length_take, hoo.1]; omega)]
      refine ⟨(mroRes (ls.take (ka + 1)) (ls.take (ka + 1)) 0).1, (mroRes (ls.take (ka + 1)) (ls.take (ka + 1)) 0).2, rfl, by omega, by omega, hm, ?_⟩
      rcases mro_all2 (ls.take (ka + 1)) (ls.take (ka + 1)) 0 with h1 | ⟨j, h1, h2, h3⟩
      · rw [h1]
        refine Or.inr ⟨rfl, by rw [List.length_take, hoo.1]; omega, ?_⟩
        dsimp only
        rw [getD_take ls (ka + 1) ka (by omega), hfe]
        exact fna_ok l ka O n _ hok hnO (by omega) (by omega) hrange
      · rw [h3]
        refine Or.inl ⟨by dsimp only; omega, ?_⟩
        dsimp only
        rw [List.length_take] at h1
        rw [getD_take ls (ka + 1) j (by omega)] at h2
        intro h4
        have : j = ka := by omega
        subst this
        exact hne h2

theorem fnAttrs_walk (a0 : Option Addr) (len0 cap0 : Nat) (z0 : List Int) (w : World) (w0 : (a0 = none ∧ len0 = 0 ∧ cap0 = 0 ∧ z0 = []) ∨ ∃ x, a0 = some x ∧ len0 ≤ cap0 ∧ cap0 ≤ maxLen ∧ z0.length = cap0 ∧ (∀ i, i < z0.length → w.cell? (x.add i) = some (.int .u8 (z0.getD i 0))) ∧ ∀ n ∈ z0, (Lit.int .u8 n).wf = true) (y0 : len0 * 1 ≤ 140737488351232) :
  Calls Try.prog 5 #[.slice a0 len0 cap0] w fun e w' => e = .returned (.bool true) ∧ Below w.heap.size w w' := by
 obtain ⟨l0, rfl, hr0, hm0, hw0, hc0⟩ := ReadsInt.ofRowC w0
 obtain ⟨k, h⟩ := FnAttrs l0 y0 hw0
 exact FnAttrs_calls k _ _ l0 w (Kd.C_of_reads (d := (0 : Int)) (h1 := fun _ => rfl) hr0) hc0 h

end Go.Proofs.Ytkclfbmgnhmkhaa.Pure
