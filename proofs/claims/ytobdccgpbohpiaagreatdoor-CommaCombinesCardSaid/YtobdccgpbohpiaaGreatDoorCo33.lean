/- Co: a part of the proof. -/
import Derived.Test.YtobdccgpbohpiaaGreatDoorCo31
import Derived.Test.YtobdccgpbohpiaaGreatDoorCo32
set_option linter.unusedVariables false
set_option linter.unusedSimpArgs false
namespace Go.Proofs.YtobdccgpbohpiaaGreatDoor
open Go.RowKit Go.Lib F Go.Proofs.YtobdccgpbohpiaaGreatDoorW.PrintWords Go.Proofs.YtobdccgpbohpiaaGreatDoorW.PrintLast Go.Proofs.YtobdccgpbohpiaaGreatDoorW.PrintMore
def Quads (w : World) (A : Option Addr) (ys : List (Int × Int × Int × Int)) : Prop := ∀ j (q : Int × Int × Int × Int), ys[j]? = some q → ∃ ad, A = some ad ∧ w.cell? (ad.add (j * 4)) = some (.int .i8 q.1) ∧ w.cell? ⟨(ad.add (j * 4)).block, (ad.add (j * 4)).off + 1, none⟩ = some (.int .i8 q.2.1) ∧ w.cell? ⟨(ad.add (j * 4)).block, (ad.add (j * 4)).off + 2, none⟩ = some (.int .i8 q.2.2.1) ∧ w.cell? ⟨(ad.add (j * 4)).block, (ad.add (j * 4)).off + 3, none⟩ = some (.int .i8 q.2.2.2)
theorem Quads.below {w w' : World} {A : Option Addr} {ys : List (Int × Int × Int × Int)} (h : Quads w A ys) (hb : Below w.heap.size w w') : Quads w' A ys := fun j q hj => by
  obtain ⟨ad, e, h0, h1, h2, h3⟩ := h j q hj
  exact ⟨ad, e, (hb.cell (World.block_lt_of_cell? w _ h0)).trans h0, (hb.cell (World.block_lt_of_cell? w _ h1)).trans h1, (hb.cell (World.block_lt_of_cell? w _ h2)).trans h2, (hb.cell (World.block_lt_of_cell? w _ h3)).trans h3⟩
set_option maxRecDepth 100000 in
set_option maxHeartbeats 8000000 in
theorem combines_known (v0 v1 v2 v3 v4 : Int) (Am : Option Addr) (cm : Nat) (nm : Nat) (c : Int) (w : World) (hG : Glob w) (h : (nm : Int) > 2 ∨ c < -1 ∨ c > 3) :
    Calls Tryz.prog 5 #[.agg #[.int .u8 v0, .int .i8 v1, .int .i8 v2, .int .i8 v3, .int .i8 v4], .slice Am nm cm, .int .i8 c] w fun e w' => e = .returned (.bool true) ∧ Below w.heap.size w w' := by
  have HG := Aside0.mk hG
  clear hG
  by_cases h1 : (nm : Int) > 2
  · have h1d : decide ((nm : Int) > 2) = true := decide_eq_true h1
    go_enter Tryz.func5, Tryz.ntmps5
    go_wp2_with (first
      | (go_at_call 13; (with_reducible refine (g_known.calls true w1 (Glob.below HG.out HB1.out) rfl).mono ?_); rintro e w2 ⟨rfl, hb⟩; have HB2 := Aside0.mk (below_step HB1.out hb); clear hb)
      | (go_at_call 13; (with_reducible refine (g_known.calls true _ ?sG rfl).mono ?_); (case sG => exact Glob.below HG.out (below_alloc (Below.refl _ _) _)); rintro e w1 ⟨rfl, hb⟩; have HB1 := Aside0.mk (show Below w.heap.size w w1 from below_step (below_alloc (Below.refl _ _) _) hb); clear hb))
    go_ret
    exact ⟨rfl, HB2.out⟩
  · have h1d : decide ((nm : Int) > 2) = false := decide_eq_false h1
    by_cases h2 : c < -1
    · have h2d : decide (c < -1) = true := decide_eq_true h2
      go_enter Tryz.func5, Tryz.ntmps5
      go_wp2_with (first
      | (go_at_call 13; (with_reducible refine (g_known.calls true w1 (Glob.below HG.out HB1.out) rfl).mono ?_); rintro e w2 ⟨rfl, hb⟩; have HB2 := Aside0.mk (below_step HB1.out hb); clear hb)
      | (go_at_call 13; (with_reducible refine (g_known.calls true _ ?sG rfl).mono ?_); (case sG => exact Glob.below HG.out (below_alloc (Below.refl _ _) _)); rintro e w1 ⟨rfl, hb⟩; have HB1 := Aside0.mk (show Below w.heap.size w w1 from below_step (below_alloc (Below.refl _ _) _) hb); clear hb))
      go_ret
      exact ⟨rfl, HB2.out⟩
    · have h2d : decide (c < -1) = false := decide_eq_false h2
      have h3d : decide (c > 3) = true := decide_eq_true (by omega)
      go_enter Tryz.func5, Tryz.ntmps5
      go_wp2_with (first
      | (go_at_call 13; (with_reducible refine (g_known.calls true w1 (Glob.below HG.out HB1.out) rfl).mono ?_); rintro e w2 ⟨rfl, hb⟩; have HB2 := Aside0.mk (below_step HB1.out hb); clear hb)
      | (go_at_call 13; (with_reducible refine (g_known.calls true _ ?sG rfl).mono ?_); (case sG => exact Glob.below HG.out (below_alloc (Below.refl _ _) _)); rintro e w1 ⟨rfl, hb⟩; have HB1 := Aside0.mk (show Below w.heap.size w w1 from below_step (below_alloc (Below.refl _ _) _) hb); clear hb))
      go_ret
      exact ⟨rfl, HB2.out⟩
end Go.Proofs.YtobdccgpbohpiaaGreatDoor
