/- Re: a part of the proof. -/
import Derived.Test.YtobdccgpbohpiaaGreatDoorRe40
set_option linter.unusedVariables false
set_option linter.unusedSimpArgs false
namespace Go.Proofs.YtobdccgpbohpiaaGreatDoor
open Go.RowKit Go.Lib F Go.Proofs.YtobdccgpbohpiaaGreatDoorW.PrintWords Go.Proofs.YtobdccgpbohpiaaGreatDoorW.PrintLast Go.Proofs.YtobdccgpbohpiaaGreatDoorW.PrintMore
theorem both_small (k n : Nat) (h : nDigits n ≤ 18) : decimal_both.f (k + 1) (D n) one1 = some ((n : Int), 1, true) := by
  have h1 : one1 = D 1 := D_one'.symm
  have h2 : nDigits 1 ≤ 18 := digits_le (show 1 < 10 ^ 18 by decide) (by omega)
  have e1 : (D n).size = nDigits n := D_size n
  have e2 : (D 1).size = nDigits 1 := D_size 1
  rw [h1]
  unfold decimal_both.f
  rw [if_neg (by omega), decide_eq_false (by omega), decimal_both.j0, if_neg (by decide), small_le h, small_le h2]
  rfl
theorem super_spec {p : List Nat} (hp : p ∈ PL) {N De H : Nat} (h : H ≤ 130) : ∀ r ∈ spec p N De H, Super (ints p) r (decide (numN p r = denN p r + 1)) := fun r hr => by
  obtain ⟨hf, h9, h10, _⟩ := spec_few hp h r hr
  have hl := PL_length hp
  have hc := checkAll_ev hp [r] (by simp) (fun y hy => by rw [List.mem_singleton.1 hy, hf.len]; omega)
  rw [rowsErr, if_pos hf.len, hf.big, if_neg (by decide), rowsErr] at hc
  obtain ⟨k1, g1⟩ := hc
  obtain ⟨k2, g2⟩ := (sides_ev p r (hf.fits hp)).2
  have hlt := lt_of_digits h10
  have hlt2 : denN p r < 1000000000 := hlt
  refine ⟨⟨max k1 k2 + 1, D (numN p r), D (denN p r), D (denN p r + 1), (denN p r : Int), 1, ((denN p r + 1 : Nat) : Int), ?_, g2 _ (by omega), both_small _ _ (by omega), ?_, dOf_D _ (by omega), ?_⟩⟩
  · have := g1 (max k1 k2 + 1) (by omega)
    unfold monzo_Check.f
    simp only at this
    rw [this]; rfl
  · rw [wrapU_id (by omega)]; rfl
  · by_cases hq : numN p r = denN p r + 1
    · rw [decide_eq_true hq, hq]; exact (beq_self_eq_true _).symm
    · rw [decide_eq_false hq]; exact (beq_eq_false_iff_ne.mpr (fun he => hq (D_inj.1 he))).symm
theorem supG_spec {p : List Nat} (hp : p ∈ PL) {N De H : Nat} (h : H ≤ 130) : supG (law p N De H) (law p N De H).length = (spec p N De H).filter fun r => decide (numN p r = denN p r + 1) := by
  rw [← law_spec hp H h, List.filter_map]
  unfold supG
  rw [List.take_length]
  congr 1
  refine List.filter_congr fun q hq => ?_
  have hi := (law_isz hp H h q hq).1
  have h1 := hi.n1
  have h2 := hi.d1
  show _ = decide (numN p q.1 = denN p q.1 + 1)
  rw [hi.num, hi.den]
  exact decide_eq_decide.2 ⟨fun e => by omega, fun e => by omega⟩
end Go.Proofs.YtobdccgpbohpiaaGreatDoor
