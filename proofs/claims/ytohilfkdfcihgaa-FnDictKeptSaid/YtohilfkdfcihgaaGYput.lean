/- What yput and ycut come to: by hand over the contracts of yfind, ylay and yempty. No condition beyond those of the theorems. -/
import Derived.Test.YtohilfkdfcihgaaGDictOk
import Derived.Test.YtohilfkdfcihgaaGFind
namespace Go.Proofs.Ytohilfkdfcihgaa.PDi
open Go.RowKit Go.Proofs.YtohilfkdfcihgaaW.PrintWords Go.Proofs.YtohilfkdfcihgaaW.PrintLast Go.Proofs.YtohilfkdfcihgaaW.PrintMore
attribute [local go_sem] max2_int min2_int max_two min_two max_three min_three max_four min_four
set_option linter.unusedVariables false
set_option linter.unusedSimpArgs false
structure DAt (w : World) (base b : Nat) (u0 u1 : Value) (T : List Int) (E : List S62) (live : Int) : Prop where
  blk : w.heap[b]? = some (.cells #[u0, u1, .int .i64 live] 25 (0, 0))
  sl : Kd.R (Kd.int .i64) 2 w base (fun _ => True) u0 T
  en : Kd.R k62 62 w base (fun _ => True) u1 E
structure Only (w w' : World) (b : Nat) (u0 u1 : Value) : Prop where
  os : w'.os = w.os
  tape : w'.tape = w.tape
  output : w'.output = w.output
  size : w.heap.size ≤ w'.heap.size
  block : ∀ k, k < w.heap.size → k ≠ b → some k ≠ u0.ownBlock → some k ≠ u1.ownBlock → w'.heap[k]? = w.heap[k]?
def Of (w : World) (u u' : Value) : Prop := ∀ k, u'.ownBlock = some k → u.ownBlock = some k ∨ w.heap.size ≤ k
theorem Of.rfl {w : World} {u : Value} : Of w u u := fun _ h => Or.inl h
theorem Only.of_below {w w' : World} {b : Nat} {u0 u1 : Value} (h : Below w.heap.size w w') : Only w w' b u0 u1 := ⟨h.os, h.tape, h.output, h.size, fun k hk _ _ _ => h.block k hk⟩
theorem Only.trans {w w1 w2 : World} {b : Nat} {u0 u1 v0 v1 : Value} (h : Only w w1 b u0 u1) (k : Only w1 w2 b v0 v1) (o0 : Of w u0 v0) (o1 : Of w u1 v1) : Only w w2 b u0 u1 :=
  ⟨k.os.trans h.os, k.tape.trans h.tape, k.output.trans h.output, Nat.le_trans h.size k.size, fun i hi hb h0 h1 => (k.block i (Nat.lt_of_lt_of_le hi h.size) hb (fun e => by
    rcases o0 i e.symm with e' | e'
    · exact h0 e'.symm
    · omega) (fun e => by
    rcases o1 i e.symm with e' | e'
    · exact h1 e'.symm
    · omega)).trans (h.block i hi hb h0 h1)⟩
theorem Only.grown0 {w w' : World} {b : Nat} {u0 u1 : Value} (h : w.grownBy w' u0.ownBlock) : Only w w' b u0 u1 := ⟨h.os, h.tape, h.output, h.size, fun k hk _ h0 _ => h.block k hk h0⟩
theorem Only.grown1 {w w' : World} {b : Nat} {u0 u1 : Value} (h : w.grownBy w' u1.ownBlock) : Only w w' b u0 u1 := ⟨h.os, h.tape, h.output, h.size, fun k hk _ _ h1 => h.block k hk h1⟩
theorem Only.cell {w : World} {b : Nat} {u0 u1 : Value} (j : Nat) (u : Value) : Only w (w.setCell ⟨b, j, none⟩ u) b u0 u1 :=
  ⟨Eq.refl _, Eq.refl _, Eq.refl _, by simp, fun k hk hb _ _ => Below.heap_setCell _ _ _ _ hb⟩
theorem DAt.ne0 {w : World} {base b : Nat} {u0 u1 : Value} {T : List Int} {E : List S62} {live : Int} (h : DAt w base b u0 u1 T E live) : some b ≠ u0.ownBlock := Kd.R_ne h.sl h.blk (by decide)
theorem DAt.ne1 {w : World} {base b : Nat} {u0 u1 : Value} {T : List Int} {E : List S62} {live : Int} (h : DAt w base b u0 u1 T E live) : some b ≠ u1.ownBlock := Kd.R_ne h.en h.blk (by decide)
theorem DAt.below {w w' : World} {base b : Nat} {u0 u1 : Value} {T : List Int} {E : List S62} {live : Int} (h : DAt w base b u0 u1 T E live) (hb : Below w.heap.size w w') : DAt w' base b u0 u1 T E live :=
  ⟨(hb.block b (lt_of_block h.blk)).trans h.blk, Kd.R_below h.sl hb, Kd.R_below h.en hb⟩
theorem DAt.grown0 {w w' : World} {base b : Nat} {u0 u1 : Value} {T T' : List Int} {E : List S62} {live : Int} (h : DAt w base b u0 u1 T E live) (hg : w.grownBy w' u0.ownBlock) (hT : Kd.R (Kd.int .i64) 2 w' base (fun _ => True) u0 T') : DAt w' base b u0 u1 T' E live :=
  ⟨(hg.block b (lt_of_block h.blk) h.ne0).trans h.blk, hT, Kd.R_over h.en h.sl (by decide) hg⟩
theorem own_n {w : World} {base n c : Nat} {ok : Nat → Prop} {A : Option Addr} {T : List Int} (h : Kd.R (Kd.int .i64) 2 w base ok (.slice A n c) T) (hn : T.length = n) : w.ownsRow base 2 1 (.slice A n c) n (nums .i64 T) := by
  have := Kd.own_of_R h
  rw [hn] at this
  exact this
theorem R_of_n {w : World} {base n : Nat} {v : Value} {T : List Int} (h : w.ownsRow base 2 1 v n (nums .i64 T)) (hn : T.length = n) : Kd.R (Kd.int .i64) 2 w base (fun _ => True) v T := by
  subst hn
  exact Kd.R_of_own h (fun _ _ => trivial)
theorem grown_cell {w w' : World} {g : Nat} {a : Addr} {v : Value} (hg : w.grownBy w' (some g)) (hne : a.block ≠ g) (hc : w.cell? a = some v) : w'.cell? a = some v :=
  (World.cell?_of_block (hg.block a.block (World.block_lt_of_cell? w a hc) (by simpa using hne))).trans hc
theorem keepg2 {w w' : World} {g : Nat} {a1 a2 : Addr} {v1 v2 : Value} (hg : w.grownBy w' (some g)) (h1 : a1.block ≠ g) (h2 : a2.block ≠ g) (h : w.cell? a1 = some v1 ∧ w.cell? a2 = some v2) : w'.cell? a1 = some v1 ∧ w'.cell? a2 = some v2 :=
  ⟨grown_cell hg h1 h.1, grown_cell hg h2 h.2⟩
theorem add_done {w2 w3 : World} {base b : Nat} {u0 u1 v1 : Value} {T : List Int} {E E' : List S62} {live l' : Int} (h : DAt w2 base b u0 u1 T E live) (hr : Kd.R k62 62 w3 base (fun _ => True) v1 E') (hg : w2.grownBy w3 u1.ownBlock)
    (hat : v1.ownBlock = u1.ownBlock ∨ ∃ b, v1.ownBlock = some b ∧ w2.heap.size ≤ b) :
    DAt ((w3.setCell ⟨b, 1, none⟩ v1).setCell ⟨b, 2, none⟩ (.int .i64 l')) base b u0 v1 T E' l' ∧ Only w2 ((w3.setCell ⟨b, 1, none⟩ v1).setCell ⟨b, 2, none⟩ (.int .i64 l')) b u0 u1 ∧ Of w2 u1 v1 := by
  have hbk := (hg.block b (lt_of_block h.blk) h.ne1).trans h.blk
  have hbk1 : (w3.setCell ⟨b, 1, none⟩ v1).heap[b]? = some (.cells #[u0, v1, .int .i64 live] 25 (0, 0)) := blk_put hbk 1 v1 rfl
  have hO : Of w2 u1 v1 := fun k hk => by
    rcases hat with e | ⟨b', e, hb'⟩
    · exact Or.inl (e ▸ hk)
    · rw [e] at hk
      exact Or.inr (by injection hk with hk; omega)
  refine ⟨⟨blk_put hbk1 2 _ rfl, Kd.R_set (Kd.R_set (Kd.R_over h.sl h.en (by decide) hg) hbk (by decide) 1 v1) hbk1 (by decide) 2 _, Kd.R_set (Kd.R_set hr hbk (by decide) 1 v1) hbk1 (by decide) 2 _⟩, ?_, hO⟩
  exact ((Only.grown1 (u0 := u0) hg).trans (Only.cell (u0 := u0) (u1 := v1) 1 v1) Of.rfl hO).trans (Only.cell (u0 := u0) (u1 := v1) 2 _) Of.rfl hO
def growO : Nat → Int → Int → Option Int
  | 0, _, _ => none
  | f + 1, n, l => if n ≤ 3 * l then growO f (n * 2) l else some n
def reLay : List Int → List S62 → List S62 → Option (List Int × List S62)
  | T, acc, [] => some (T, acc)
  | T, acc, e :: r => if e.f3 = true then reLay T acc r else (probe (layStep acc.length) e.f0 T.length 1000000 T (e.f0 % T.length) 5).bind fun T' => reLay T' (acc ++ [e]) r
def put2 (T : List Int) (E : List S62) (live hash key val : Int) : Option (List Int × List S62 × Int × Bool) :=
  (probe (layStep E.length) hash T.length 1000000 T (hash % T.length) 5).bind fun T' => some (T', E ++ [⟨hash, key, val, false⟩], live + 1, true)
def yputM (T : List Int) (E : List S62) (live hash key val : Int) : Option (List Int × List S62 × Int × Bool) :=
  if 0 ≤ live ∧ live ≤ 1000000 ∧ E.length ≤ 1000000 ∧ (∀ e ∈ E, 0 ≤ e.f0 ∧ e.f0 ≤ 18446744073709551615) ∧ T.length ≤ 1000000 ∧ 0 < T.length ∧ 0 ≤ hash ∧ hash ≤ 18446744073709551615 then
    (impl_yfind.f T E live hash key).bind fun pr =>
      if 0 ≤ pr.1 then (if pr.1 < E.length then some (T, E.set pr.1.toNat ⟨(rd_T62 E pr.1).f0, (rd_T62 E pr.1).f1, val, (rd_T62 E pr.1).f3⟩, live, true) else none)
      else if 2 * (T.length : Int) / 3 ≤ E.length then (growO 40 8 live).bind fun N => if 65536 < N then some (T, E, live, false) else (reLay (List.replicate N.toNat (-1)) [] E).bind fun p => put2 p.1 p.2 live hash key val
      else put2 T E live hash key val
  else none
def Left (w : World) (base b : Nat) (u0 u1 : Value) (T : List Int) (E : List S62) (live : Int) (r : Bool) (e : Ending) (w' : World) : Prop :=
  e = .returned (.bool r) ∧ ∃ v0 v1, DAt w' base b v0 v1 T E live ∧ Only w w' b u0 u1 ∧ Of w u0 v0 ∧ Of w u1 v1
set_option maxHeartbeats 1000000 in
set_option maxRecDepth 100000 in
theorem yput_found (base b : Nat) (u0 u1 : Value) (T : List Int) (E : List S62) (live hash key val p q : Int) (w : World) (hD : DAt w base b u0 u1 T E live) (hf : impl_yfind.f T E live hash key = some (p, q)) (hp : 0 ≤ p) (hpe : p < E.length) :
    Calls Try.prog 49 #[.pointer (some ⟨b, 0, none⟩), .int .u64 hash, .int .i64 key, .int .i64 val] w
      (Left w base b u0 u1 T (E.set p.toNat ⟨(rd_T62 E p).f0, (rd_T62 E p).f1, val, (rd_T62 E p).f3⟩) live true) := by
  obtain ⟨A0, c0, rfl, hc0, hC0⟩ := Kd.R_reads hD.sl
  obtain ⟨A1, c1, rfl, hc1, hC1⟩ := Kd.R_reads hD.en
  have d0 : w.cell? ⟨b, 0, none⟩ = some (.slice A0 T.length c0) := (blk_cell hD.blk 0).trans rfl
  have d1 : w.cell? ⟨b, 1, none⟩ = some (.slice A1 E.length c1) := (blk_cell hD.blk 1).trans rfl
  have d2 : w.cell? ⟨b, 2, none⟩ = some (.int .i64 live) := (blk_cell hD.blk 2).trans rfl
  have HF := Aside0.mk hf
  have HD := Aside0.mk hD
  have HC0 := Aside0.mk hC0
  have HC1 := Aside0.mk hC1
  clear hD hC0 hC1 hf
  generalize hN : T.length = n at *
  have HN := Aside0.mk hN
  generalize hM : E.length = m at *
  have HM := Aside0.mk hM
  clear hN hM
  go_enter Try.func49, Try.ntmps49
  go_wp2_with fail
  have hyf := impl_yfind.calls A0 c0 T A1 c1 E live hash key p q w (by rw [HN.out]; exact HC0.out) (by rw [HN.out]; exact hc0) (by rw [HM.out]; exact HC1.out) (by rw [HM.out]; exact hc1) HF.out
  rw [HN.out, HM.out] at hyf
  refine hyf.mono ?_
  rintro e w1 ⟨rfl, hb⟩
  have HB := Aside0.mk hb
  have HD1 := Aside0.mk (HD.out.below hb)
  have e0 := pw_cell_below hb d0
  have e1 := pw_cell_below hb d1
  have e2 := pw_cell_below hb d2
  clear hyf hb d0 d1 d2
  have hm0 : 0 < E.length := by rw [HM.out]; omega
  obtain ⟨g, cap, hg0, hg1, hg2, hg3⟩ := Kd.R_form HD1.out.en hm0
  rw [HM.out] at hg0
  injection hg0 with hg0a _ hg0b
  subst hg0a hg0b
  obtain ⟨c, hcl, hM4, hcc, hfz⟩ := Kd.R_elem HD1.out.en z62 p hp hpe
  have hcs := k62_openM hM4
  have x2 : w1.cell? ⟨g, p.toNat * 4 + 2, none⟩ = some (.int .i64 (rd_T62 E p).f2) := hcc 2 _ (by rw [hcs]; rfl)
  have z2 : w1.frozen? ⟨g, p.toNat * 4 + 2, none⟩ = false := hfz 2
  obtain ⟨hR', hG'⟩ := Kd.R_seg HD1.out.en p hp hpe (j := 2) (seg := [.int .i64 val]) (x' := ⟨(rd_T62 E p).f0, (rd_T62 E p).f1, val, (rd_T62 E p).f3⟩) (okp := fun _ => False) hcl hcc (show 2 + 1 ≤ 4 by omega) (by
    rw [hcs]
    exact k62_mkM _ _ _ (⟨(rd_T62 E p).f0, (rd_T62 E p).f1, val, (rd_T62 E p).f3⟩ : S62)) (fun _ hk => hk.elim)
  have HR' := Aside0.mk hR'
  have HG' := Aside0.mk hG'
  clear hR' hG' hcc hfz hM4 hcs hcl hg3
  go_wp2
  go_ret
  refine ⟨rfl, _, _, ⟨?_, ?_, HR'.out⟩, ?_, Of.rfl, Of.rfl⟩
  · exact (HG'.out.block b (lt_of_block HD1.out.blk) HD1.out.ne1).trans HD1.out.blk
  · exact Kd.R_over HD1.out.sl HD1.out.en (by decide) HG'.out
  · exact (Only.of_below HB.out).trans (Only.grown1 (u1 := Value.slice (some ⟨g, 0, none⟩) m _) HG'.out) Of.rfl Of.rfl
set_option maxHeartbeats 1000000 in
set_option maxRecDepth 100000 in
theorem yput_add (base b : Nat) (u0 u1 : Value) (T T' : List Int) (E : List S62) (live hash key val p q : Int) (w : World) (hD : DAt w base b u0 u1 T E live) (hf : impl_yfind.f T E live hash key = some (p, q)) (hp : p < 0) (hns : ¬ 2 * (T.length : Int) / 3 ≤ E.length)
    (hb0 : base ≤ w.heap.size) (hT0 : 0 < T.length) (hT1 : T.length ≤ 1000000) (hE1 : E.length ≤ 1000000) (hh0 : 0 ≤ hash) (hh1 : hash ≤ 18446744073709551615) (hl0 : 0 ≤ live) (hl1 : live ≤ 1000000)
    (hlay : probe (layStep E.length) hash T.length 1000000 T (hash % T.length) 5 = some T') :
    Calls Try.prog 49 #[.pointer (some ⟨b, 0, none⟩), .int .u64 hash, .int .i64 key, .int .i64 val] w
      (Left w base b u0 u1 T' (E ++ [⟨hash, key, val, false⟩]) (live + 1) true) := by
  obtain ⟨g0, c0, rfl, hg0, hg1, cells0, hcells0⟩ := Kd.R_form hD.sl hT0
  obtain ⟨A1, c1, rfl, hc1, hC1⟩ := Kd.R_reads hD.en
  obtain ⟨_, _, e0, hc0, hC0⟩ := Kd.R_reads hD.sl
  injection e0 with e1 _ e2
  subst e1 e2
  have d0 : w.cell? ⟨b, 0, none⟩ = some (.slice (some ⟨g0, 0, none⟩) T.length c0) := (blk_cell hD.blk 0).trans rfl
  have d1 : w.cell? ⟨b, 1, none⟩ = some (.slice A1 E.length c1) := (blk_cell hD.blk 1).trans rfl
  have d2 : w.cell? ⟨b, 2, none⟩ = some (.int .i64 live) := (blk_cell hD.blk 2).trans rfl
  have HF := Aside0.mk hf
  have HD := Aside0.mk hD
  have HC0 := Aside0.mk hC0
  have HC1 := Aside0.mk hC1
  have HLAY := Aside0.mk hlay
  clear hD hC0 hC1 hf hcells0 hlay
  generalize hN : T.length = n at *
  have HN := Aside0.mk hN
  generalize hM : E.length = m at *
  have HM := Aside0.mk hM
  clear hN hM
  go_enter Try.func49, Try.ntmps49
  go_wp2_with fail
  have hyf := impl_yfind.calls (some ⟨g0, 0, none⟩) c0 T A1 c1 E live hash key p q w (by rw [HN.out]; exact HC0.out) (by rw [HN.out]; exact hc0) (by rw [HM.out]; exact HC1.out) (by rw [HM.out]; exact hc1) HF.out
  rw [HN.out, HM.out] at hyf
  refine hyf.mono ?_
  rintro e w1 ⟨rfl, hb⟩
  have HB := Aside0.mk hb
  have HD1 := Aside0.mk (HD.out.below hb)
  have e0 := pw_cell_below hb d0
  have e1 := pw_cell_below hb d1
  have e2 := pw_cell_below hb d2
  clear hyf hb d0 d1 d2
  go_wp2_with fail
  go_quiet (fail)
  have HB2 := Aside0.mk (pw_below_drewN HB.out nq)
  have HD2 := Aside0.mk (HD1.out.below (pw_below_drewN (Below.refl _ _) nq))
  clear e0 e1 e2 HB HD1 HD
  generalize w1.drewN nq = wq at *
  have e0 : wq.cell? ⟨b, 0, none⟩ = some (.slice (some ⟨g0, 0, none⟩) n c0) := (blk_cell HD2.out.blk 0).trans rfl
  have e1 : wq.cell? ⟨b, 1, none⟩ = some (.slice A1 m c1) := (blk_cell HD2.out.blk 1).trans rfl
  have e2 : wq.cell? ⟨b, 2, none⟩ = some (.int .i64 live) := (blk_cell HD2.out.blk 2).trans rfl
  have hbg : b ≠ g0 := fun e => HD2.out.ne0 (by rw [e]; rfl)
  go_wp2_with fail
  go_region_held3 (fun w' => w'.cell? ⟨b, 0, none⟩ = some (.slice (some ⟨g0, 0, none⟩) n c0) ∧ w'.cell? ⟨b, 1, none⟩ = some (.slice A1 m c1)) (first | exact keepg2 (by assumption) hbg hbg (by assumption) | go_keep) (first | (go_at_call 58; refine (ylay_n n hash m g0 c0 base 1000000 T T' _ HN.out (by omega) (by omega) hh0 hh1 (by omega) (own_n (Kd.R_drew HD2.out.sl) HN.out) HLAY.out).mono ?_; rintro e' w2 ⟨rfl, ho2, hg2⟩))
  have hTl : T'.length = n := by rw [probe_lay_length _ _ _ _ _ _ _ _ HLAY.out]; exact HN.out
  have HD3 := Aside0.mk ((HD2.out.below (below_drew1 (Below.refl _ _))).grown0 hg2 (R_of_n ho2 hTl))
  have HON := Aside0.mk ((Only.of_below (b := b) (u0 := .slice (some ⟨g0, 0, none⟩) n c0) (u1 := .slice A1 m c1) (below_drew1 HB2.out)).trans (Only.grown0 (u0 := .slice (some ⟨g0, 0, none⟩) n c0) (u1 := .slice A1 m c1) hg2) Of.rfl Of.rfl)
  have hs2 : base ≤ w2.heap.size := Nat.le_trans hb0 HON.out.size
  rename _ ∧ _ => hS
  clear hS ho2 hg2 HD2 HB2 e0 e1 e2
  have e1 : w2.cell? ⟨b, 1, none⟩ = some (.slice A1 m c1) := (blk_cell HD3.out.blk 1).trans rfl
  go_wp2_with (first | ((with_reducible refine gate_builtin (b := .append) (xs := #[.tmp 117, .tmp 122]) rfl ?_); at_builtin; refine Kd.R_append k62 (w0 := w2) base rfl (.tmp 117) (.tmp 122) 23 62 (.agg #[(.int .u64 0), (.int .i64 0), (.int .i64 0), (.bool false)]) 32 rfl Try.underlying23 info62 rfl (by decide) (by omega) (.slice A1 m c1) E (⟨hash, key, val, false⟩ : S62) [.int .u64 hash, .int .i64 key, .int .i64 val, .bool false] (fun _ => True) (fun _ => False) rfl rfl ?aP (fun _ hk => hk.elim) ?aF ?aO ?aB ?aS ?aL ?_; (case aP => exact k62_mkM _ _ _ (⟨hash, key, val, false⟩ : S62)); (case aB => exact Below.refl _ _); (case aF => exact (fun _ _ => trivial)); (case aO => exact HD3.out.en); (case aS => exact hs2); (case aL => rw [HM.out]; omega); intro v1 w3 ho3 hb3 hg3 hat3; obtain ⟨A3, c3, hv3, hc3, hC3⟩ := Kd.R_reads ho3; have hl3 : (E ++ [(⟨hash, key, val, false⟩ : S62)]).length = m + 1 := (by rw [List.length_append, HM.out]; rfl); rw [hl3] at hv3; subst hv3; clear hc3 hC3 hl3; have HO3 := Aside0.mk ho3; have HG3 := Aside0.mk hg3; have HAT3 := Aside0.mk hat3; have hbk := (hg3.block b (lt_of_block HD3.out.blk) HD3.out.ne1).trans HD3.out.blk; have y1 : w3.cell? ⟨b, 1, none⟩ = some (.slice A1 m c1) := (blk_cell hbk 1).trans rfl; have y2 : w3.cell? ⟨b, 2, none⟩ = some (.int .i64 live) := (blk_cell hbk 2).trans rfl; have z1 : w3.frozen? ⟨b, 1, none⟩ = false := blk_frozen hbk 1; have z2 : w3.frozen? ⟨b, 2, none⟩ = false := blk_frozen hbk 2; have HBK := Aside0.mk hbk; clear ho3 hb3 hg3 hat3 hbk))
  go_ret
  obtain ⟨q1, q2, q3⟩ := add_done (l' := live + 1) HD3.out HO3.out HG3.out HAT3.out
  exact ⟨rfl, _, _, q1, HON.out.trans q2 Of.rfl Of.rfl, Of.rfl, fun k hk => (q3 k hk).imp_right (Nat.le_trans HON.out.size)⟩
end Go.Proofs.Ytohilfkdfcihgaa.PDi
