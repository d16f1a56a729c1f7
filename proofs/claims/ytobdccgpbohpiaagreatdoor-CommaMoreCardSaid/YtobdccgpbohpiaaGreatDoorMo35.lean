/- Mo: a part of the proof. -/
import Derived.Test.YtobdccgpbohpiaaGreatDoorMo34
set_option linter.unusedVariables false
set_option linter.unusedSimpArgs false
namespace Go.Proofs.YtobdccgpbohpiaaGreatDoor
open Go.RowKit Go.Sort F Go.Proofs.YtobdccgpbohpiaaGreatDoorW.PrintWords Go.Proofs.YtobdccgpbohpiaaGreatDoorW.PrintLast Go.Proofs.YtobdccgpbohpiaaGreatDoorW.PrintMore
theorem law_above {p : List Nat} (hp : p ∈ PL) {N De : Nat} : ∀ m, m ≤ 130 → ∀ q ∈ law p N De m, q.2.f1 < q.2.f0
  | 0, _, q, hq => by simp [law] at hq
  | m + 1, hm, q, hq => by
    rw [law] at hq
    rcases List.mem_append.1 hq with h | h
    · exact law_above hp m (by omega) q h
    · split at h
      · rename_i hx
        obtain ⟨_, e1, e2⟩ := inL_isz hp _ (ex_mem (H := 130) (by omega) hm hx) m (by omega) q h
        rw [e1]
        show q.2.f1 < ((m + 1 : Nat) : Int)
        omega
      · cases h
theorem spec_above {p : List Nat} (hp : p ∈ PL) {N De H : Nat} (h : H ≤ 130) : ∀ r ∈ spec p N De H, denN p r < numN p r := fun r hr => by
  rw [← law_spec hp H h] at hr
  obtain ⟨q, hq, rfl⟩ := List.mem_map.1 hr
  have hi := (law_isz hp H h q hq).1
  have ha := law_above hp H h q hq
  have := hi.d1
  rw [hi.num, hi.den]
  omega
theorem spec_sign {p : List Nat} (hp : p ∈ PL) {N De H : Nat} (h : H ≤ 130) : ∀ r ∈ spec p N De H, Ev (fun k => monzo_Sign.f k (ints p) r) (1, 0) := fun r hr => by
  have h1 := sign_ev hp (spec_few hp h r hr).1
  have h2 := spec_above hp h r hr
  have e : cmpN (numN p r) (denN p r) = 1 := by unfold cmpN; rw [if_neg (by omega), if_neg (by omega)]
  rw [e] at h1
  exact h1
theorem more_plain {p : List Nat} (hp : p ∈ PL) {N De H : Nat} (h : H ≤ 130) : ∃ rows', (spec p N De H).Perm rows' ∧ rows'.Pairwise (ltF p) ∧
    ∀ a l, spec p N De H = a :: l → ∃ z t rs, rows' = z :: t ∧ recs (ltFb p) [] (spec p N De H) = rs ++ [z] ∧ (recs (ltFb p) [] (spec p N De H)).head? = some a := by
  obtain ⟨hb1, hb2⟩ := bySize_ok hp (N := N) (De := De) h
  have hpm := hb1.symm.map Prod.fst
  rw [law_spec hp H h] at hpm
  refine ⟨_, hpm, hb2, fun a l hal => ?_⟩
  generalize (bySize (law p N De H)).map Prod.fst = rows' at hpm hb2
  have hS : ∀ r ∈ ([] : List (List Int)) ++ spec p N De H, 0 < denN p r := fun r hr => (spec_few hp h r (by simpa using hr)).2.2.2
  have hhead : (recs (ltFb p) [] (spec p N De H)).head? = some a := by
    rw [hal, recs, if_pos (by rfl)]
    exact recs_head _ _ _ _ rfl
  cases hl : (recs (ltFb p) [] (spec p N De H)).getLast? with
  | none => rw [List.getLast?_eq_none_iff] at hl; rw [hl] at hhead; cases hhead
  | some z =>
    have hmin := recs_last (ltFb p) (fun r => 0 < denN p r) (fun a b c ha hb hc => ltFb_order.1 a b c ⟨ha, hb, hc⟩) (fun a b _ _ => ltFb_order.2 a b) _ [] z hS (fun a ha => by cases ha) hl
    have hz := recs_mem (ltFb p) _ [] z (List.mem_of_getLast? hl)
    rw [List.nil_append] at hz hmin
    cases rows' with
    | nil => rw [hal] at hpm; exact absurd hpm.length_eq (by simp)
    | cons r t =>
      have hr : ltFb p r z = false := hmin r (hpm.mem_iff.2 List.mem_cons_self)
      have hzr : z = r := by
        rcases List.mem_cons.1 (hpm.mem_iff.1 hz) with e | ht
        · exact e
        · have h1 := (List.pairwise_cons.1 hb2).1 z ht
          unfold ltFb at hr
          unfold ltF at h1
          exact absurd h1 (of_decide_eq_false hr)
      subst hzr
      obtain ⟨rs, hrs⟩ := List.getLast?_eq_some_iff.1 hl
      exact ⟨z, t, rs, rfl, hrs, hhead⟩
end Go.Proofs.YtobdccgpbohpiaaGreatDoor
