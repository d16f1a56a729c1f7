/- Re: a part of the proof. -/
import Derived.Shelf.RegionOpenPlain
import Derived.Test.YtobdccgpbohpiaaGreatDoorRe22
import Derived.Test.YtobdccgpbohpiaaGreatDoorRe31
import Derived.Test.YtobdccgpbohpiaaGreatDoorRe32
set_option linter.unusedVariables false
set_option linter.unusedSimpArgs false
namespace Go.Proofs.YtobdccgpbohpiaaGreatDoor
open Go.RowKit Go.Lib Go.Sort F Go.Proofs.YtobdccgpbohpiaaGreatDoorW.PrintWords Go.Proofs.YtobdccgpbohpiaaGreatDoorW.PrintLast Go.Proofs.YtobdccgpbohpiaaGreatDoorW.PrintMore
set_option maxHeartbeats 1000000 in
theorem less_calls (a b c d : Int) (W : World) (ha : 1 ≤ a ∧ a ≤ 130) (hb : 1 ≤ b ∧ b ≤ 130) (hc : 1 ≤ c ∧ c ≤ 130) (hd : 1 ≤ d ∧ d ≤ 130) :
    Calls Tryz.prog 18 #[.agg #[.int .i64 a, .int .i64 b], .agg #[.int .i64 c, .int .i64 d]] W fun e w' => e = .returned (.bool (decide (a * d < c * b))) ∧ ∃ q os', w' = grow (W.drewN q) os' := by
  have h1 : wrap64 (a * d) = a * d := by
    have := Int.mul_le_mul ha.2 hd.2 (by omega) (by omega)
    have : 0 ≤ a * d := Int.mul_nonneg (by omega) (by omega)
    exact wrap64_id (by omega)
  have h2 : wrap64 (c * b) = c * b := by
    have := Int.mul_le_mul hc.2 hb.2 (by omega) (by omega)
    have : 0 ≤ c * b := Int.mul_nonneg (by omega) (by omega)
    exact wrap64_id (by omega)
  have e1 := Aside0.mk h1
  have e2 := Aside0.mk h2
  clear h1 h2 ha hb hc hd
  go_enter Tryz.func18, Tryz.ntmps18
  go_wp2
  go_ret
  rw [e1.out, e2.out]
  exact ⟨rfl, 0, _, by rw [alloc_eq_grow, alloc_eq_grow, grow_grow]; rfl⟩
def leI (L : List (List Int × S47)) (i j : Nat) : Bool := lessP (L.getD i zRP) (L.getD j zRP)
end Go.Proofs.YtobdccgpbohpiaaGreatDoor
