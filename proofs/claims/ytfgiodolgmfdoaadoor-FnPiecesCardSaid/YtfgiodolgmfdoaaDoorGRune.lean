/- The block of code points that a conversion lays, and back. No condition beyond those of the theorems. -/
import Derived.Test.YtfgiodolgmfdoaaDoorRunesZ
import Derived.Test.YtfgiodolgmfdoaaDoorGSplit
namespace Go.Proofs.YtfgiodolgmfdoaaDoor.PT
open Go.RowKit Go.Shelf Go.Proofs.YtfgiodolgmfdoaaDoorW.PrintWords Go.Proofs.YtfgiodolgmfdoaaDoorW.PrintLast Go.Proofs.YtfgiodolgmfdoaaDoorW.PrintMore
attribute [local go_sem] max2_int max_two
set_option linter.unusedVariables false
set_option linter.unusedSimpArgs false

/-- The block that []rune(s) lays. -/
def RuneAt (W : World) (g cap : Nat) (R : List Int) : Prop := ∃ cs : Array Value, W.heap[g]? = some (.cells cs 21 (0, 0)) ∧ R.length ≤ cap ∧ cap = cs.size ∧ ∀ j, j < R.length → cs[j]? = some (.int .i32 (R.getD j 0))

def runeWorld (W : World) (s : ByteArray) : World := W.drew.alloc (.cells (Conv.runesFrom s s.size 0 #[] ++ Array.replicate (grownCap W (Conv.runesFrom s s.size 0 #[]).size 0 21 - (Conv.runesFrom s s.size 0 #[]).size) (.int .i32 0)) 21)
def runeCap (W : World) (s : ByteArray) : Nat := grownCap W (Conv.runesFrom s s.size 0 #[]).size 0 21

theorem runes_conv (W : World) (s : ByteArray) (hs : s.size ≤ 16384) : (convert 9 78 (.string s)).run Tryd.prog W = .ok (.slice (some ⟨W.heap.size, 0, none⟩) (runesFrom s s.size 0).length (runeCap W s)) (runeWorld W s) := by
  have h1 := size_runesFrom s s.size 0 #[]
  simp only [List.size_toArray, List.length_nil] at h1
  have h := run_runes_of_string (P := Tryd.prog) W 9 78 21 s Tryd.underlying9 Tryd.underlying78 Tryd.underlying21 (by omega)
  have e : (Conv.runesFrom s s.size 0 #[]).size = (runesFrom s s.size 0).length := by rw [convRunes]; simp
  rw [h]
  unfold runeCap runeWorld
  rw [e]

theorem runeWorld_at (W : World) (s : ByteArray) : RuneAt (runeWorld W s) W.heap.size (runeCap W s) (runesFrom s s.size 0) := by
  have e : (Conv.runesFrom s s.size 0 #[]).size = (runesFrom s s.size 0).length := by rw [convRunes]; simp
  have hg := grownCap_ge W (Conv.runesFrom s s.size 0 #[]).size 0 21
  refine ⟨Conv.runesFrom s s.size 0 #[] ++ Array.replicate (grownCap W (Conv.runesFrom s s.size 0 #[]).size 0 21 - (Conv.runesFrom s s.size 0 #[]).size) (.int .i32 0), ?_, ?_, ?_, fun j hj => ?_⟩
  · show (W.heap.push _)[W.heap.size]? = _
    rw [Array.getElem?_push_size]
  · rw [← e]; exact hg
  · rw [Array.size_append, Array.size_replicate]; unfold runeCap; omega
  · rw [Array.getElem?_append_left (by omega), convRunes]
    simp [List.getD_eq_getElem?_getD, List.getElem?_eq_getElem hj]

theorem addr_add (g j i : Nat) : (⟨g, j, none⟩ : Addr).add i = ⟨g, j + i, none⟩ := by
  unfold Addr.add
  simp

theorem RuneAt.cell {W : World} {g cap : Nat} {R : List Int} (h : RuneAt W g cap R) (j : Nat) (hj : j < R.length) : W.cell? ⟨g, j, none⟩ = some (.int .i32 (R.getD j 0)) := by
  obtain ⟨cs, hb, _, _, hc⟩ := h
  unfold World.cell?
  rw [hb]
  exact hc j hj

theorem runeWorld_below {w0 W : World} (hb : Below w0.heap.size w0 W) (s : ByteArray) : Below w0.heap.size w0 (runeWorld W s) := below_alloc (below_drew1 hb) _
theorem runeWorld_size (W : World) (s : ByteArray) : (runeWorld W s).heap.size = W.heap.size + 1 := by
  unfold runeWorld
  show (W.heap.push _).size = _
  simp

/-- string(r[f:]). -/
theorem runes_back {W : World} {g cap : Nat} {R : List Int} (h : RuneAt W g cap R) (hR : ∀ r ∈ R, okR r) (f l c j : Nat) (hl : f + l = R.length) (hj : j = f ∨ l = 0) :
    (convert 78 9 (.slice (some ⟨g, j, none⟩) l c)).run Tryd.prog W = .ok (.string ⟨(enAll (R.drop f)).toArray⟩) W := by
  have hd : (R.drop f).length = l := by rw [List.length_drop]; omega
  have hk := run_convert_runes (P := Tryd.prog) W 78 9 21 ⟨g, j, none⟩ l c (R.drop f) (by omega) Tryd.underlying78 Tryd.underlying21 Tryd.underlying9 (fun i hi => by
    rcases hj with rfl | hj
    · rw [show (⟨g, j, none⟩ : Addr).add i = ⟨g, j + i, none⟩ from addr_add g j i]
      rw [h.cell (j + i) (by omega)]
      simp [List.getD_eq_getElem?_getD]
    · omega)
  rw [hk, List.take_of_length_le (by omega), runesBytes_en _ (fun r hr => hR r (List.mem_of_mem_drop hr))]

end Go.Proofs.YtfgiodolgmfdoaaDoor.PT
