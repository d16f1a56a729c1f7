/- Ch: a part of the proof. -/
import Derived.Test.YtobdccgpbohpiaaGreatDoorCh12
import Derived.Test.YtobdccgpbohpiaaGreatDoorCh8
set_option linter.unusedVariables false
set_option linter.unusedSimpArgs false
namespace Go.Proofs.YtobdccgpbohpiaaGreatDoor
open Go.RowKit Go.Shelf Go.Lib Go.Proofs.YtobdccgpbohpiaaGreatDoorW.PrintWords Go.Proofs.YtobdccgpbohpiaaGreatDoorW.PrintLast Go.Proofs.YtobdccgpbohpiaaGreatDoorW.PrintMore
def g_decimal_Bits.f (a : ByteArray) : Option Int := (g_decimal_Small.f a).bind fun p => if p.2 = true then g_bits_Len64.f p.1 else none
set_option maxHeartbeats 1000000 in
theorem g_decimal_Bits.calls (a0 : ByteArray) (r : Int) (w : World) (h : g_decimal_Bits.f a0 = some r) :
    Calls Tryz.prog 136 #[.string a0] w fun e w' => e = .returned (.int .i64 r) ∧ Below w.heap.size w w' := by
  unfold g_decimal_Bits.f at h
  obtain ⟨⟨u, b⟩, h1, h⟩ := Option.bind_eq_some_iff.mp h
  simp only at h
  by_cases hb : b = true
  · subst hb
    rw [if_pos rfl] at h
    have hc := g_decimal_Small.calls a0 u true w h1
    have hl := fun W => g_bits_Len64.calls u r W h
    clear h h1
    go_enter Tryz.func136, Tryz.ntmps136
    go_wp2_with (first | (go_at_call 164; refine hc.mono ?_; rintro e w1 ⟨rfl, HB1⟩) | (go_at_call 126; refine (hl _).mono ?_; rintro e w2 ⟨rfl, HB2⟩))
    go_ret
    exact ⟨rfl, HB1.trans (HB2.mono HB1.size)⟩
  · rw [if_neg hb] at h; cases h
theorem tdiv_66439 (x : Int) : Int.tdiv 66439 x = 66439 / x := Int.tdiv_eq_ediv_of_nonneg (by decide)
theorem tdiv_4000 (x : Int) : Int.tdiv 4000 x = 4000 / x := Int.tdiv_eq_ediv_of_nonneg (by decide)
end Go.Proofs.YtobdccgpbohpiaaGreatDoor
