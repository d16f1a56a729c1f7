/- Ch: a part of the proof. -/
import Derived.Outline
import Derived.Test.YtobdccgpbohpiaaGreatDoorCh1
import Derived.Test.YtobdccgpbohpiaaGreatDoorProg
import Derived.WalkLawsBesides
set_option linter.unusedVariables false
set_option linter.unusedSimpArgs false
namespace Go.Proofs.YtobdccgpbohpiaaGreatDoor
open Go.RowKit Go.Proofs.YtobdccgpbohpiaaGreatDoorW.PrintWords Go.Proofs.YtobdccgpbohpiaaGreatDoorW.PrintLast Go.Proofs.YtobdccgpbohpiaaGreatDoorW.PrintMore
def g_decimal_Compare.f (a0 : ByteArray) (a1 : ByteArray) : Option (Int) := if (a0.size : Int) = (a1.size : Int) then (if (Op.bytesLess a0.toList a1.toList) = true then (some (-1)) else (if a0.toList = a1.toList then some 0 else some 1)) else (if a0.size ≤ 1000000000000 ∧ a1.size ≤ 1000000000000 then (if a0.size < a1.size then some (-1) else some 1) else none)
set_option maxHeartbeats 1000000 in
theorem g_decimal_Compare.same (a0 : ByteArray) (a1 : ByteArray) (r : Int) (w : World) (h : g_decimal_Compare.f a0 a1 = some r) :
    Calls Tryz.prog 56 #[.string a0, .string a1] w fun e w' => e = .returned (.int .i64 r) ∧ w' = w := by
  unfold g_decimal_Compare.f at h
  by_cases c3 : a0.size = a1.size
  · rw [if_pos (by omega)] at h
    have c3b0 : ((a0.size : Int) == (a1.size : Int)) = true := by simp [c3]
    have c3b1 : ((a0.size : Int) != (a1.size : Int)) = false := by simp [c3]
    have c3b2 : (a0.size == a1.size) = true := by simp [c3]
    clear c3
    by_cases c4 : (Op.bytesLess a0.toList a1.toList) = true
    · rw [if_pos c4] at h
      obtain rfl := Option.some.inj h
      clear h
      go_enter Tryz.func56, Tryz.ntmps56
      go_wp2
      go_ret
      exact ⟨rfl, rfl⟩
    · rw [if_neg c4] at h
      have c4b0 : (Op.bytesLess a0.toList a1.toList) = false := by simpa using c4
      clear c4
      by_cases c5 : a0.toList = a1.toList
      · rw [if_pos c5] at h
        have c5b0 : (a0.toList == a1.toList) = true := by simpa using c5
        clear c5
        obtain rfl := Option.some.inj h
        clear h
        go_enter Tryz.func56, Tryz.ntmps56
        go_wp2
        go_ret
        exact ⟨rfl, rfl⟩
      · rw [if_neg c5] at h
        have c5b0 : (a0.toList == a1.toList) = false := by simpa using c5
        clear c5
        obtain rfl := Option.some.inj h
        clear h
        go_enter Tryz.func56, Tryz.ntmps56
        go_wp2
        go_ret
        exact ⟨rfl, rfl⟩
  · rw [if_neg (by omega)] at h
    by_cases c6 : a0.size ≤ 1000000000000 ∧ a1.size ≤ 1000000000000
    · rw [if_pos c6] at h
      obtain ⟨c7, c8⟩ := c6
      have c3b0 : ((a0.size : Int) == (a1.size : Int)) = false := by simp; omega
      have c3b1 : ((a0.size : Int) != (a1.size : Int)) = true := by simp; omega
      have c3b2 : (a0.size == a1.size) = false := by simp; omega
      by_cases c9 : a0.size < a1.size
      · rw [if_pos c9] at h
        obtain rfl := Option.some.inj h
        clear h c3
        go_enter Tryz.func56, Tryz.ntmps56
        go_wp2
        all_goals first | (exfalso; omega) | skip
        all_goals go_ret
        all_goals exact ⟨by congr 2 <;> omega, rfl⟩
      · rw [if_neg c9] at h
        obtain rfl := Option.some.inj h
        clear h
        have c10 : a1.size < a0.size := by omega
        clear c3 c9
        go_enter Tryz.func56, Tryz.ntmps56
        go_wp2
        all_goals first | (exfalso; omega) | skip
        all_goals go_ret
        all_goals exact ⟨by congr 2 <;> omega, rfl⟩
    · rw [if_neg c6] at h
      exact absurd h (by simp)
theorem g_decimal_Compare.calls (a0 : ByteArray) (a1 : ByteArray) (r : Int) (w : World) (h : g_decimal_Compare.f a0 a1 = some r) :
    Calls Tryz.prog 56 #[.string a0, .string a1] w fun e w' => e = .returned (.int .i64 r) ∧ Below w.heap.size w w' :=
  (g_decimal_Compare.same a0 a1 r w h).mono fun _ _ ⟨he, hw⟩ => ⟨he, hw ▸ Below.refl _ _⟩
end Go.Proofs.YtobdccgpbohpiaaGreatDoor
