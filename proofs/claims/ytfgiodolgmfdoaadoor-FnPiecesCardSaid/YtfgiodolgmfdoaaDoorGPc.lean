/- The contracts of TextSplit, TextReplace and TextJoin in the one form that the law on pieces takes. No condition beyond those of the theorems. -/
import Derived.Test.YtfgiodolgmfdoaaDoorGRepl
import Derived.Test.YtfgiodolgmfdoaaDoorGTJoin
import Derived.Test.YtfgiodolgmfdoaaDoorGFind
namespace Go.Proofs.YtfgiodolgmfdoaaDoor.PT
open Go.RowKit Go.Shelf Go.Proofs.YtfgiodolgmfdoaaDoorW.PrintWords Go.Proofs.YtfgiodolgmfdoaaDoorW.PrintLast
set_option linter.unusedVariables false
set_option linter.unusedSimpArgs false

def impl_TextSplitS.f (s sep : ByteArray) : Option (List ByteArray × Int) := if s.size ≤ 1048576 ∧ sep.size ≤ 1048576 then impl_TextSplit.f s sep else none
theorem impl_TextSplitS.calls (a0 a1 : ByteArray) (r1 : List ByteArray) (r2 : Int) (w : World) (h : impl_TextSplitS.f a0 a1 = some (r1, r2)) (hT : TM w) :
    Calls Tryd.prog 38 #[.string a0, .string a1] w fun e w' => ∃ v0_ : Value, e = .returned (.tuple #[v0_, .int .i64 r2]) ∧ Kd.R Kd.string 9 w' w.heap.size (fun _ => True) v0_ r1 ∧ Below w.heap.size w w' := by
  unfold impl_TextSplitS.f at h
  split at h
  case isFalse => simp at h
  rename_i hs
  exact impl_TextSplit.calls a0 a1 r1 r2 w h hT hs.1 hs.2

def impl_TextReplace.f (s old by' : ByteArray) : Option (ByteArray × Int) := if s.size ≤ 1048576 ∧ old.size ≤ 1048576 ∧ by'.size ≤ 1048576 then some (replR s old by') else none
theorem impl_TextReplace.calls (a0 a1 a2 : ByteArray) (r1 : ByteArray) (r2 : Int) (w : World) (h : impl_TextReplace.f a0 a1 a2 = some (r1, r2)) (hT : TM w) :
    Calls Tryd.prog 40 #[.string a0, .string a1, .string a2] w fun e w' => e = .returned (.tuple #[.string r1, .int .i64 r2]) ∧ Below w.heap.size w w' := by
  unfold impl_TextReplace.f at h
  split at h
  case isFalse => simp at h
  rename_i hs
  have h := Option.some.inj h
  have hc := implRepl_calls a0 a1 a2 w hs.1 hs.2.1 hs.2.2 hT
  rw [h] at hc
  exact hc

theorem impl_TextJoinS.calls (a0 : ByteArray) (A1 : Option Addr) (c1 : Nat) (l1 : List ByteArray) (r1 : ByteArray) (r2 : Int) (w : World) (hr1 : Kd.C Kd.string w A1 l1.length l1) (hc1 : l1.length ≤ c1) (h : impl_TextJoin.f a0 l1 = some (r1, r2)) (hT : TM w) (hsp : ∀ ad, A1 = some ad → ad.spot = none) :
    Calls Tryd.prog 23 #[.string a0, .slice A1 l1.length c1] w fun e w' => e = .returned (.tuple #[.string r1, .int .i64 r2]) ∧ Below w.heap.size w w' :=
  impl_TextJoin.calls a0 A1 c1 l1 r1 r2 w hr1 hc1 h hT.t hsp

end Go.Proofs.YtfgiodolgmfdoaaDoor.PT
