/- Ch: a part of the proof. -/
import Derived.Lib.ItoaNum
import Derived.Lib.LaidTab
import Derived.Outline
import Derived.Test.YtobdccgpbohpiaaGreatDoorCh1
import Derived.Test.YtobdccgpbohpiaaGreatDoorProg
import Derived.WalkSmall
set_option linter.unusedVariables false
set_option linter.unusedSimpArgs false
namespace Go.Proofs.YtobdccgpbohpiaaGreatDoor
open Go.RowKit Go.Proofs.YtobdccgpbohpiaaGreatDoorW.PrintWords Go.Proofs.YtobdccgpbohpiaaGreatDoorW.PrintLast Go.Proofs.YtobdccgpbohpiaaGreatDoorW.PrintMore
structure Glob (w : World) : Prop where
  tab : Lib.TabIs Tryz.prog w "internal/strconv.uint64pow10" .u64 Lib.pow10Tab
  rng : ∃ tp p, w.var? Tryz.prog "strconv.ErrRange" = some #[.iface tp p]
theorem var_lt {w : World} {n : String} {g : Nat} {cs : Array Value} (hg : Tryz.prog.globalNamed n = some g) (h : w.var? Tryz.prog n = some cs) : g < w.heap.size := by
  unfold World.var? at h
  rw [hg, Option.bind_some] at h
  by_cases hl : g < w.heap.size
  · exact hl
  · rw [Array.getElem?_eq_none (by omega)] at h
    cases h
theorem g_some (n : String) (h : (Tryz.prog.globalNamed n).isSome = true) : ∃ g, Tryz.prog.globalNamed n = some g := Option.isSome_iff_exists.1 h
theorem g_tab : ∃ g, Tryz.prog.globalNamed "internal/strconv.uint64pow10" = some g := g_some _ (by kernel_rfl)
theorem g_rng : ∃ g, Tryz.prog.globalNamed "strconv.ErrRange" = some g := g_some _ (by kernel_rfl)
theorem Glob.below {w w' : World} (h : Glob w) (hb : Below w.heap.size w w') : Glob w' := by
  obtain ⟨g, hg⟩ := g_tab
  obtain ⟨q, hq⟩ := g_rng
  refine ⟨var?_below hb hg (var_lt hg h.tab) h.tab, ?_⟩
  obtain ⟨tp, p, hr⟩ := h.rng
  exact ⟨tp, p, var?_below hb hq (var_lt hq hr) hr⟩
theorem info3 : (Tryz.prog.info? 3).map (fun i => (i.zero, i.size, i.bytes)) = some (some (.int .i64 0), 1, 8) := by kernel_rfl
def g_Interval.f (l : List Int) (a0 a1 a2 a3 : Int) : Option (List Int) := some (((([a0, a1, a2, a3] : List Int).map fun x => Int.tmod (wrap64 x) 10)).take l.length)
end Go.Proofs.YtobdccgpbohpiaaGreatDoor
