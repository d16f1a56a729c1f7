/- Co: a part of the proof. -/
import Derived.Test.YtobdccgpbohpiaaGreatDoorCo25
import Derived.Test.YtobdccgpbohpiaaGreatDoorCo30
set_option linter.unusedVariables false
set_option linter.unusedSimpArgs false
namespace Go.Proofs.YtobdccgpbohpiaaGreatDoor
open Go.RowKit Go.Sort F Go.Proofs.YtobdccgpbohpiaaGreatDoorW.PrintWords Go.Proofs.YtobdccgpbohpiaaGreatDoorW.PrintLast Go.Proofs.YtobdccgpbohpiaaGreatDoorW.PrintMore
theorem insert_loop (l : List (List Int)) (x : List Int) (hl : l.length ≤ 100000) (hx : x.length < 4611686018427387904) : ∀ (m i : Nat), i + m = l.length →
    Ev (fun k => schismalaw16_insert.l0 k l x (l.take i) (i : Int)) (l.take i ++ insC x (l.drop i)) := by
  intro m
  induction m with
  | zero =>
    intro i hi
    rw [List.drop_eq_nil_of_le (by omega), insC]
    exact Ev.succ (fun k => by rw [schismalaw16_insert.l0]) (Ev.neg (by omega) (Ev.pos (by rw [List.length_take]; omega) (Ev.pure _)))
  | succ m ih =>
    intro i hi
    have hil : i < l.length := by omega
    have e1 : rd_L1 l (i : Int) = l[i] := rdL1_at hil
    have htl : (l.take i).length ≤ 100000 := by rw [List.length_take]; omega
    have hnext := ih (i + 1) (by omega)
    rw [List.take_succ_eq_append_getElem hil, ← e1] at hnext
    rw [← w64n (i := i) (by omega)] at hnext
    have hd : l.drop i = rd_L1 l (i : Int) :: l.drop (i + 1) := by rw [e1]; exact List.drop_eq_getElem_cons hil
    rw [hd, insC]
    refine Ev.succ (fun k => by rw [schismalaw16_insert.l0]) (Ev.pos (by omega) (Ev.pos (by omega) (Ev.bind (cmpRow_ev x _ hx) ?_)))
    by_cases h0 : cmpRow x (rd_L1 l (i : Int)) = 0
    · rw [if_pos h0, ← hd, List.take_append_drop]
      exact Ev.pos h0 (Ev.pure _)
    · rw [if_neg h0]
      refine Ev.neg h0 ?_
      by_cases h1 : cmpRow x (rd_L1 l (i : Int)) < 0
      · rw [if_pos h1, ← hd]
        refine Ev.pos h1 (Ev.pos (by omega) (Ev.bind (Ev.pure _) (Ev.pos (by omega) (Ev.bind (Ev.pure _) (Ev.pos ?_ ?_)))))
        · rw [Int.toNat_natCast, List.length_append, List.length_singleton, List.length_drop]; omega
        · rw [Int.toNat_natCast, List.append_assoc]; exact Ev.pure _
      · rw [if_neg h1]
        refine Ev.neg h1 (Ev.pos (by omega) ?_)
        rw [List.append_assoc] at hnext
        exact hnext
theorem insert_ev (l : List (List Int)) (x : List Int) (hl : l.length ≤ 100000) (hx : x.length < 4611686018427387904) : Ev (fun k => schismalaw16_insert.f k l x) (insC x l) := by
  have := insert_loop l x hl hx l.length 0 (by omega)
  rw [List.drop_zero, List.take_zero] at this
  unfold schismalaw16_insert.f
  exact this
end Go.Proofs.YtobdccgpbohpiaaGreatDoor
