/- Ch: a part of the proof. -/
import Derived.Test.YtobdccgpbohpiaaGreatDoorCh31
import Derived.Test.YtobdccgpbohpiaaGreatDoorCh33
set_option linter.unusedVariables false
set_option linter.unusedSimpArgs false
namespace Go.Proofs.YtobdccgpbohpiaaGreatDoor
open Go.RowKit Go.Sort F Go.Proofs.YtobdccgpbohpiaaGreatDoorW.PrintWords Go.Proofs.YtobdccgpbohpiaaGreatDoorW.PrintLast Go.Proofs.YtobdccgpbohpiaaGreatDoorW.PrintMore
theorem checks_gen (p x : List Int) (H : Int) (hx : x.length < 4611686018427387904) : ∃ e, Ev (fun k => comma_Check.f k p H x) e ∧ Ev (fun k => schismalaw16_check.f k p H x) e := by
  have hc := checkAll_gen p [x] (by simp) (fun y hy => by rw [List.mem_singleton.1 hy]; exact hx)
  have hck : Ev (fun k => monzo_Check.f k p x) (allErr p [x]) := by unfold monzo_Check.f; exact Ev.bind hc (Ev.pure _)
  by_cases h0 : allErr p [x] = 0
  · have hp : perr p = 0 := by
      unfold allErr at h0
      split at h0
      · assumption
      · rename_i h; exact absurd h0 h
    have hr : rowsErr p.length [x] = 0 := by unfold allErr at h0; rw [if_pos hp] at h0; exact h0
    obtain ⟨hl, hb⟩ := rowsErr_zero hr x List.mem_cons_self
    obtain ⟨h1, h2, h3⟩ := perr_zero hp
    rw [h0] at hck
    have hf : Fits (p.map Int.toNat) x := ⟨by rw [List.length_map]; exact hl, by rw [List.length_map]; omega, fun a ha => by
      obtain ⟨b, hb, rfl⟩ := List.mem_map.1 ha
      have := h3 b hb; omega, big_false hb⟩
    have hs := (sides_ev _ x hf).2
    rw [ints_toNat h3] at hs
    have hd := fits_digits _ x hf.primes hf.exps
    rw [List.length_map] at hd
    obtain ⟨n, hsign⟩ : ∃ n, Ev (fun k => monzo_Sign.f k p x) (n, 0) := ⟨_, by unfold monzo_Sign.f; exact Ev.bind hck (Ev.pos rfl (Ev.bind hs (Ev.bind (Ev.const (dCmp_D _ _ (by omega) (by omega))) (Ev.pure _))))⟩
    by_cases ha : H < 1
    · refine ⟨3, ?_, ?_⟩
      · unfold comma_Check.f
        exact Ev.bind hsign (Ev.pos rfl (Ev.pos ha (Ev.succ (fun k => by rw [comma_Check.j0]) (Ev.pos rfl (Ev.pure _)))))
      · unfold schismalaw16_check.f
        exact Ev.bind hck (Ev.pos rfl (Ev.pos ha (Ev.succ (fun k => by rw [schismalaw16_check.j0]) (Ev.pos rfl (Ev.pure _)))))
    · by_cases hb5 : H > 5000
      · refine ⟨3, ?_, ?_⟩
        · unfold comma_Check.f
          exact Ev.bind hsign (Ev.pos rfl (Ev.neg ha (Ev.succ (fun k => by rw [comma_Check.j0]) (Ev.pos (decide_eq_true hb5) (Ev.pure _)))))
        · unfold schismalaw16_check.f
          exact Ev.bind hck (Ev.pos rfl (Ev.neg ha (Ev.succ (fun k => by rw [schismalaw16_check.j0]) (Ev.pos (decide_eq_true hb5) (Ev.pure _)))))
      · have hb6 : ¬ decide (H > 5000) = true := by simpa using hb5
        by_cases hn : n ≤ 0
        · refine ⟨3, ?_, ?_⟩
          · unfold comma_Check.f
            exact Ev.bind hsign (Ev.pos rfl (Ev.neg ha (Ev.succ (fun k => by rw [comma_Check.j0]) (Ev.neg hb6 (Ev.pos hn (Ev.pure _))))))
          · unfold schismalaw16_check.f
            exact Ev.bind hck (Ev.pos rfl (Ev.neg ha (Ev.succ (fun k => by rw [schismalaw16_check.j0]) (Ev.neg hb6 (Ev.bind hsign (Ev.pos hn (Ev.pure _)))))))
        · refine ⟨0, ?_, ?_⟩
          · unfold comma_Check.f
            exact Ev.bind hsign (Ev.pos rfl (Ev.neg ha (Ev.succ (fun k => by rw [comma_Check.j0]) (Ev.neg hb6 (Ev.neg hn (Ev.pure _))))))
          · unfold schismalaw16_check.f
            exact Ev.bind hck (Ev.pos rfl (Ev.neg ha (Ev.succ (fun k => by rw [schismalaw16_check.j0]) (Ev.neg hb6 (Ev.bind hsign (Ev.neg hn (Ev.pure _)))))))
  · refine ⟨allErr p [x], ?_, ?_⟩
    · unfold comma_Check.f monzo_Sign.f
      exact Ev.bind (Ev.bind hck (Ev.neg h0 (Ev.pure _))) (Ev.neg h0 (Ev.pure _))
    · unfold schismalaw16_check.f
      exact Ev.bind hck (Ev.neg h0 (Ev.pure _))
section
variable {p x : List Int} {H e : Int} (h : Ev (fun k => comma_Check.f k p H x) e) (he : ¬ e = 0)
include h he
theorem list_err : Ev (fun k => comma_List.f k p H x) ([], e) := by
  unfold comma_List.f
  exact Ev.bind h (Ev.neg he (Ev.pure _))
theorem small_err (c : Int) : Ev (fun k => comma_Smallest.f k p H x c) ([], e) := by
  unfold comma_Smallest.f
  exact Ev.bind h (Ev.neg he (Ev.pure _))
theorem records_err : Ev (fun k => comma_Records.f k p H x) ([], e) := by
  unfold comma_Records.f
  exact Ev.bind (list_err h he) (Ev.succ (fun k => by rw [comma_Records.l0]) (Ev.neg (by show ¬ (0 : Int) < 0; decide) (Ev.pure _)))
end
end Go.Proofs.YtobdccgpbohpiaaGreatDoor
