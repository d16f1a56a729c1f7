/- Re: a part of the proof. -/
import Derived.Deep.Modes
import Derived.LaidMore
import Derived.OpenShut
import Derived.ProofKit
import Derived.Stop.Joined
import Derived.Test.YtobdccgpbohpiaaGreatDoorRe2
import Derived.Test.YtobdccgpbohpiaaGreatDoorRows
set_option linter.unusedVariables false
set_option linter.unusedSimpArgs false
namespace Go.Proofs.YtobdccgpbohpiaaGreatDoor
open Go.ChangeShapes Go.WideShapes Go.ChangeAt Go.RowKit
theorem own_ : ownKnob Tryz.prog.godebug = none := by kernel_rfl
theorem laidOut_ : laidOutB Tryz.prog = true := by kernel_rfl
def laid5 : List (String × DataW Unit) := [("math/bits.deBruijn32tab", Rows.laid_math_bits_deBruijn32tab), ("math/bits.deBruijn64tab", Rows.laid_math_bits_deBruijn64tab), ("internal/strconv.uint64pow10", Rows.laid_internal_strconv_uint64pow10), ("strconv.ErrRange", Rows.laid_strconv_ErrRange), ("strconv.ErrSyntax", Rows.laid_strconv_ErrSyntax)]
theorem gRng : Tryz.prog.globalNamed "strconv.ErrRange" = some 1 := by kernel_rfl
theorem gTab : Tryz.prog.globalNamed "internal/strconv.uint64pow10" = some 2 := by kernel_rfl
theorem tRng : (Tryz.prog.globals[1]?).map (·.type) = some 163 := by kernel_rfl
theorem tTab : (Tryz.prog.globals[2]?).map (·.type) = some 255 := by kernel_rfl
set_option maxRecDepth 100000 in
theorem glob_of {W : World} (h : laidMetH Tryz.prog laid5 W) : Glob W := by
  rw [MakeChecks.laidMetH_plain _ _ _ (by kernel_rfl)] at h
  obtain ⟨ps, ⟨g0, t0, cs0, f0, p0, q0, hg0, ht0, hv0, hd0, ⟨g1, t1, cs1, f1, p1, q1, hg1, ht1, hv1, hd1, ⟨g2, t2, cs2, f2, p2, q2, hg2, ht2, hv2, hd2, ⟨g3, t3, cs3, f3, p3, q3, hg3, ht3, hv3, hd3, _, _⟩, _⟩, _⟩, _⟩, _, _⟩ := h
  obtain rfl := Option.some.inj (gTab.symm.trans hg2)
  obtain rfl := Option.some.inj (gRng.symm.trans hg3)
  obtain rfl := Option.some.inj (tTab.symm.trans ht2)
  obtain rfl := Option.some.inj (tRng.symm.trans ht3)
  refine ⟨?_, ?_⟩
  · have e := Lib.cells_of_tab (k := .u64) (zs := Lib.pow10Tab) Tryz.underlying255 Tryz.underlying141 (by kernel_rfl) (by kernel_rfl) hd2
    unfold Lib.TabIs
    rw [hv2, ← e]
  · cases f3 with
    | zero => simp [DataW.trod] at hd3
    | succ f3 =>
      obtain ⟨l⟩ := cs3
      simp only [DataW.trod, Tryz.underlying163] at hd3
      match l, hd3, hv3 with
      | [], hd3, _ => simp at hd3
      | [.iface u v], _, hv3 => exact ⟨u, v, hv3⟩
      | [.nilIface], hd3, _ => simp [Rows.laid_strconv_ErrRange] at hd3
      | [.bool _], hd3, _ | [.int _ _], hd3, _ | [.float _ _], hd3, _ | [.string _], hd3, _ | [.pointer _], hd3, _ | [.slice _ _ _], hd3, _ | [.agg _], hd3, _ => simp at hd3
      | x :: y :: r, hd3, _ => simp at hd3
      | [.complex _ _ _], hd3, _ | [.map _], hd3, _ | [.chan _], hd3, _ | [.func _ _ _], hd3, _ | [.nilFunc], hd3, _ | [.tuple _], hd3, _ => simp at hd3
theorem cells27 : Tryz.prog.cellsOf 27 = 6 := by kernel_rfl
theorem cells25 : Tryz.prog.cellsOf 25 = 5 := by kernel_rfl
theorem cells23 : Tryz.prog.cellsOf 23 = 4 := by kernel_rfl
theorem cells22 : Tryz.prog.cellsOf 22 = 1 := by kernel_rfl
theorem cells5 : Tryz.prog.cellsOf 5 = 1 := by kernel_rfl
set_option maxRecDepth 100000 in
theorem plan_open {H : Type} {enc : TypeId × Value → H} {W : World} {base : Nat} {v0 : Value} {d0 : DataW H} {ps : List MemPlace} (hval : Value.okWide Tryz.prog W .any base 27 v0) (h0 : DataW.Trod enc Tryz.prog W 0 (fun _ => true) true 27 v0 d0 ps) :
    ∃ a0 a1 a2 a3 a4 a5 : Int, v0 = .agg #[.int .u8 a0, .int .i8 a1, .int .i8 a2, .int .i8 a3, .int .i8 a4, .int .u8 a5] ∧ (0 ≤ a0 ∧ a0 < 256) ∧ ((-128 ≤ a1 ∧ a1 < 128) ∧ (-128 ≤ a2 ∧ a2 < 128) ∧ (-128 ≤ a3 ∧ a3 < 128) ∧ (-128 ≤ a4 ∧ a4 < 128)) ∧ (0 ≤ a5 ∧ a5 < 256) ∧ ps = [] := by
  obtain ⟨cs, rfl, hsz⟩ := okWide_struct Tryz.underlying27 hval
  rw [cells27] at hsz
  obtain ⟨l⟩ := cs
  match l, hsz with
  | [c0, c1, c2, c3, c4, c5], _ =>
  obtain ⟨fuel, hf⟩ := h0
  obtain ⟨y0, y1, m, hx, _, hy0, hy1⟩ := trod_struct2 Tryz.underlying27 hf
  obtain ⟨z0, z1, m2, hx2, _, hz0, hz1⟩ := trod_struct2 Tryz.underlying25 hy0
  obtain ⟨a0, e0, rfl, w0⟩ := DataW.trod_int Tryz.underlying5 hz0
  obtain ⟨a5, e5, rfl, w5⟩ := DataW.trod_int Tryz.underlying5 hy1
  obtain ⟨xs, m3, rfl, hx3, _, hn4, hel⟩ := DataW.trod_array Tryz.underlying23 hz1
  simp [Value.cells, cells5, cells25, cells23, cells22] at e0 e5 hel
  have l0 := hel 0 (by omega)
  have l1 := hel 1 (by omega)
  have l2 := hel 2 (by omega)
  have l3 := hel 3 (by omega)
  match xs, hn4 with
  | [x0, x1, x2, x3], _ =>
  simp at l0 l1 l2 l3
  obtain ⟨a1, e1, rfl, w1⟩ := DataW.trod_int Tryz.underlying22 l0
  obtain ⟨a2, e2, rfl, w2⟩ := DataW.trod_int Tryz.underlying22 l1
  obtain ⟨a3, e3, rfl, w3⟩ := DataW.trod_int Tryz.underlying22 l2
  obtain ⟨a4, e4, rfl, w4⟩ := DataW.trod_int Tryz.underlying22 l3
  simp at e1 e2 e3 e4
  subst e0 e1 e2 e3 e4 e5
  have b0 := bounds_u8 w0
  have b1 := bounds_i8 w1
  have b2 := bounds_i8 w2
  have b3 := bounds_i8 w3
  have b4 := bounds_i8 w4
  have b5 := bounds_u8 w5
  refine ⟨a0, a1, a2, a3, a4, a5, rfl, by omega, by omega, by omega, ?_⟩
  simp at hx3
  simp [hx2, hx3] at hx
  exact hx.2
theorem door_met (os : Os) (args : Array Value) : laidMetH Tryz.prog laid5 ((World.doorLaid Tryz.prog 400 os).forCall (fun _ _ => 0) ⟨#[], args, []⟩).memory :=
  laidMetH_of_parts3 (fuel := 8) (laidMet_of_run' 8 (by kernel_rfl) (by kernel_rfl)) (by kernel_rfl) (by kernel_rfl)
end Go.Proofs.YtobdccgpbohpiaaGreatDoor
