/- Ch: a part of the proof. -/
import Derived.Deep.Modes
import Derived.LaidMore
import Derived.OpenShut
import Derived.ProofKit
import Derived.Stop.Joined
import Derived.Test.YtobdccgpbohpiaaGreatDoorCh2
import Derived.Test.YtobdccgpbohpiaaGreatDoorRows
set_option linter.unusedVariables false
set_option linter.unusedSimpArgs false
namespace Go.Proofs.YtobdccgpbohpiaaGreatDoor
open Go.ChangeShapes Go.WideShapes Go.ChangeAt Go.RowKit
theorem own_ : ownKnob Tryz.prog.godebug = none := by kernel_rfl
theorem laidOut_ : laidOutB Tryz.prog = true := by kernel_rfl
def laid5 : List (String × DataW Unit) := [("math/bits.deBruijn32tab", Rows.laid_math_bits_deBruijn32tab), ("math/bits.deBruijn64tab", Rows.laid_math_bits_deBruijn64tab), ("internal/strconv.uint64pow10", Rows.laid_internal_strconv_uint64pow10), ("strconv.ErrRange", Rows.laid_strconv_ErrRange), ("strconv.ErrSyntax", Rows.laid_strconv_ErrSyntax)]
theorem gRng : Tryz.prog.globalNamed "strconv.ErrRange" = some 1 := by kernel_rfl
theorem gTab : Tryz.prog.globalNamed "internal/strconv.uint64pow10" = some 2 := by kernel_rfl
theorem tRng : (Tryz.prog.globals[1]?).map (·.type) = some 163 := by kernel_rfl
theorem tTab : (Tryz.prog.globals[2]?).map (·.type) = some 255 := by kernel_rfl
set_option maxRecDepth 100000 in
theorem glob_of {W : World} (h : laidMetH Tryz.prog laid5 W) : Glob W := by
  rw [MakeChecks.laidMetH_plain _ _ _ (by kernel_rfl)] at h
  obtain ⟨ps, ⟨g0, t0, cs0, f0, p0, q0, hg0, ht0, hv0, hd0, ⟨g1, t1, cs1, f1, p1, q1, hg1, ht1, hv1, hd1, ⟨g2, t2, cs2, f2, p2, q2, hg2, ht2, hv2, hd2, ⟨g3, t3, cs3, f3, p3, q3, hg3, ht3, hv3, hd3, _, _⟩, _⟩, _⟩, _⟩, _, _⟩ := h
  obtain rfl := Option.some.inj (gTab.symm.trans hg2)
  obtain rfl := Option.some.inj (gRng.symm.trans hg3)
  obtain rfl := Option.some.inj (tTab.symm.trans ht2)
  obtain rfl := Option.some.inj (tRng.symm.trans ht3)
  refine ⟨?_, ?_⟩
  · have e := Lib.cells_of_tab (k := .u64) (zs := Lib.pow10Tab) Tryz.underlying255 Tryz.underlying141 (by kernel_rfl) (by kernel_rfl) hd2
    unfold Lib.TabIs
    rw [hv2, ← e]
  · cases f3 with
    | zero => simp [DataW.trod] at hd3
    | succ f3 =>
      obtain ⟨l⟩ := cs3
      simp only [DataW.trod, Tryz.underlying163] at hd3
      match l, hd3, hv3 with
      | [], hd3, _ => simp at hd3
      | [.iface u v], _, hv3 => exact ⟨u, v, hv3⟩
      | [.nilIface], hd3, _ => simp [Rows.laid_strconv_ErrRange] at hd3
      | [.bool _], hd3, _ | [.int _ _], hd3, _ | [.float _ _], hd3, _ | [.string _], hd3, _ | [.pointer _], hd3, _ | [.slice _ _ _], hd3, _ | [.agg _], hd3, _ => simp at hd3
      | x :: y :: r, hd3, _ => simp at hd3
      | [.complex _ _ _], hd3, _ | [.map _], hd3, _ | [.chan _], hd3, _ | [.func _ _ _], hd3, _ | [.nilFunc], hd3, _ | [.tuple _], hd3, _ => simp at hd3
theorem door_met (os : Os) (args : Array Value) : laidMetH Tryz.prog laid5 ((World.doorLaid Tryz.prog 400 os).forCall (fun _ _ => 0) ⟨#[], args, []⟩).memory :=
  laidMetH_of_parts3 (fuel := 8) (laidMet_of_run' 8 (by kernel_rfl) (by kernel_rfl)) (by kernel_rfl) (by kernel_rfl)
end Go.Proofs.YtobdccgpbohpiaaGreatDoor
