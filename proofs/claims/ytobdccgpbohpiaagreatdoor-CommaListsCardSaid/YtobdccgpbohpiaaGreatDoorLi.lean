/- CommaLists: for any plan of a question, List returns its intervals, in order: the row and its tied card. -/
import Derived.Test.YtobdccgpbohpiaaGreatDoorCards
import Derived.Test.YtobdccgpbohpiaaGreatDoorLi3
import Derived.Test.YtobdccgpbohpiaaGreatDoorLi32
import Derived.Test.YtobdccgpbohpiaaGreatDoorLi34
import Derived.Test.YtobdccgpbohpiaaGreatDoorTie
set_option linter.unusedVariables false
namespace Go.Proofs.YtobdccgpbohpiaaGreatDoor
open Go.ChangeShapes Go.WideShapes Go.ChangeAt Go.RowKit F
theorem spec_rows {p : List Nat} (hp : p ∈ PL) {N De H : Nat} (h : H ≤ 130) : ∀ r ∈ spec p N De H, r.length < 4611686018427387904 := fun r hr => by
  have := (spec_few hp h r hr).1.len
  have := PL_length hp
  omega
theorem lists_ev (a0 a1 a2 a3 a4 a5 : Int) (h0 : 0 ≤ a0 ∧ a0 < 256) (h : (-128 ≤ a1 ∧ a1 < 128) ∧ (-128 ≤ a2 ∧ a2 < 128) ∧ (-128 ≤ a3 ∧ a3 < 128) ∧ (-128 ≤ a4 ∧ a4 < 128)) (h5 : 0 ≤ a5 ∧ a5 < 256) : Ev (fun k => schismalaw16_CommaLists.f k a0 a1 a2 a3 a4 a5) true := by
  have hm := make_ev a0 a1 a2 a3 a4 a5 h0 h h5
  obtain ⟨_, hp⟩ := primes_plan a0 h0.1 h0.2
  obtain ⟨_, hf, _⟩ := interval_few hp a1 a2 a3 a4 h
  have hh1 : 1 ≤ hgt a5 := by unfold hgt; omega
  have hh2 : hgt a5 ≤ 130 := by unfold hgt; omega
  unfold schismalaw16_CommaLists.f
  refine Ev.bind hm (Ev.bind (Ev.const rfl) (Ev.pos rfl (Ev.succ (fun k => by rw [schismalaw16_CommaLists.j0]) ?_)))
  by_cases hg : denN (plan a0) (ivl (plan a0) a1 a2 a3 a4) < numN (plan a0) (ivl (plan a0) a1 a2 a3 a4)
  · refine Ev.neg (by rw [decide_eq_true hg]; simp) (Ev.bind (list_ev hp hf hh1 hh2 hg) (Ev.bind (lawl_ev hp hf hh1 hh2) ?_))
    have hs := same_ev (spec (plan a0) (numN (plan a0) (ivl (plan a0) a1 a2 a3 a4)) (denN (plan a0) (ivl (plan a0) a1 a2 a3 a4)) (hgt a5)) (spec (plan a0) (numN (plan a0) (ivl (plan a0) a1 a2 a3 a4)) (denN (plan a0) (ivl (plan a0) a1 a2 a3 a4)) (hgt a5)) (by have := spec_length hp (N := numN (plan a0) (ivl (plan a0) a1 a2 a3 a4)) (De := denN (plan a0) (ivl (plan a0) a1 a2 a3 a4)) hh2; omega) (spec_rows hp hh2)
    rw [decide_eq_true rfl] at hs
    exact Ev.bind hs (Ev.pos rfl (Ev.pure _))
  · exact Ev.pos (by rw [decide_eq_false hg]; rfl) (Ev.bind (Ev.const rfl) (Ev.pure _))
set_option maxRecDepth 100000 in
theorem commaLists_lifted (os : Os) (started : os.Started) (H : Type) (enc : TypeId × Value → H) :
    ReturnsInHanded {} Tryz.checked os 3 .any (fun w args => (Rows.commaListsSpec.pre enc Tryz.prog Tryz.f3 [] false w args ∧ laidMetH Tryz.prog laid5 w) ∧ sizedMet enc Tryz.prog Tryz.f3 (OpenSpec.ofChange Rows.commaListsSpec) false w args)
      (Rows.commaListsSpec.post enc Tryz.prog Tryz.f3 false true false false) := by
  refine returnsInHanded_of_change_and (C := Tryz.checked) (X := fun w _ => laidMetH Tryz.prog laid5 w) (fun _ _ _ hh h => h.of_heap hh) own_ started (by kernel_rfl) Tryz.func3
    (ChangeSpec.witness_shaped (enc := enc) (C := Tryz.checked) (os := os) (X := fun w _ => laidMetH Tryz.prog laid5 w) false (World.doorLaid Tryz.prog 400 os) #[.agg #[.int .u8 0, .int .i8 0, .int .i8 0, .int .i8 0, .int .i8 0, .int .u8 0]] 8 rfl (World.shaped_of_RefB (by kernel_rfl) (by kernel_rfl)) (by kernel_rfl) (by kernel_rfl) (by kernel_rfl) (door_met os _)) ?_
  intro W base args ds gs before hval0 hW _ _ hL _
  have hval : ∀ (j : Nat) t v, Tryz.f3.params[j]? = some t → args[j]? = some v → Value.okWide Tryz.prog W .any base t v := hval0
  have hW' := hW
  obtain ⟨p, q, hA0, hV, rfl, hfz, hnd⟩ := hW
  have hA : DataW.TrodAll enc Tryz.prog W 0 (fun _ => true) true Tryz.f3.params.toList args.toList ds p := hA0
  rw [Tryz.params3] at hA hval
  obtain ⟨v0, d0, rfl, rfl, h0⟩ := trodAll_one hA
  obtain ⟨rfl, rfl⟩ := trodVars_none hV
  obtain ⟨a0, a1, a2, a3, a4, a5, rfl, b0, b1, b5, rfl⟩ := plan_open (hval 0 27 v0 rfl rfl) h0
  have hG := glob_of hL
  clear hA0 hval0
  simp only [List.append_nil] at hW'
  obtain ⟨k, hk⟩ := lists_ev a0 a1 a2 a3 a4 a5 b0 b1 b5
  refine (schismalaw16_CommaLists.calls k a0 a1 a2 a3 a4 a5 true W hG (hk k (Nat.le_refl _))).mono fun e W' ⟨he, hw⟩ => ?_
  subst he
  exact ⟨_, rfl, _, _, _, [], _, [], hW', trodAll_mk1 (shut_bool Tryz.underlying4 _), trodAll_mk1 (Below.trod laidOut_ (by kernel_rfl) (of_decide_eq_true (by kernel_rfl)) h0 hw (fun x hx => by simp at hx)), rfl, hw.frame _, fun h => by cases h⟩
theorem commaLists_holds : Rows.CommaListsSaid :=
  OpenClaim.holds_of_wide 3 Tryz.f3 rfl rfl rfl rfl rfl rfl rfl ⟨rfl, rfl, rfl, rfl, rfl⟩ rfl rfl rfl rfl rfl (by kernel_rfl) Tryz.func3 (by kernel_rfl)
    (of_decide_eq_true (by kernel_rfl)) (by unfold Func.isWrapper; first | (rw [if_pos (by decide +kernel)]; kernel_rfl) | (rw [if_neg (by decide +kernel)]; exact ⟨rfl, rfl⟩))
    (fun os started H enc _ => commaLists_lifted os started H enc)
theorem commaLists_card : Rows.CommaListsCardSaid :=
  Claim7.holds_tied_plain_at .later [] [.data, .data, .data, .sentinel, .sentinel] true (true, "ef9bef160808dab75bcc16a36ad70f1427a7490e534792e8ba55f790fc90c504") true
    commaLists_holds (fun _ h => by cases h) (by kernel_rfl) (fun _ h => by cases h) commaLists_row_tie rfl ⟨rfl, rfl⟩ (by kernel_rfl) rfl
    (fun f fn hf hfn => by
      obtain rfl : f = 3 := Option.some.inj ((show Tryz.prog.funcNamed "schisma/schismalaw16.CommaLists" = some 3 by kernel_rfl).symm.trans hf) |>.symm
      obtain rfl : fn = Tryz.f3 := (Option.some.inj (Tryz.func3.symm.trans hfn)).symm
      exact ⟨by kernel_rfl, fun j t ht => by
        rw [Tryz.params3] at ht
        have hm : t ∈ [27] := by simpa using Array.mem_of_getElem? ht
        have hall : ([27].all fun u => !Tryz.prog.wantsStandIn u) = true := by kernel_rfl
        exact (show Tryz.prog.wantsStandIn t = false by simpa using List.all_eq_true.1 hall t hm)⟩)
    (by kernel_rfl)
end Go.Proofs.YtobdccgpbohpiaaGreatDoor
