/- CommaRecords: for any plan of a question, Records returns the intervals that are less than all before them, and Superparticular those whose numerator is the denominator plus 1: the row and its tied card. -/
import Derived.Test.YtobdccgpbohpiaaGreatDoorCards
import Derived.Test.YtobdccgpbohpiaaGreatDoorRe3
import Derived.Test.YtobdccgpbohpiaaGreatDoorRe41
import Derived.Test.YtobdccgpbohpiaaGreatDoorTie
set_option linter.unusedVariables false
set_option linter.unusedSimpArgs false
namespace Go.Proofs.YtobdccgpbohpiaaGreatDoor
open Go.ChangeShapes Go.WideShapes Go.ChangeAt Go.RowKit F
theorem records_calls (a0 a1 a2 a3 a4 a5 : Int) (h0 : 0 ≤ a0 ∧ a0 < 256) (h : (-128 ≤ a1 ∧ a1 < 128) ∧ (-128 ≤ a2 ∧ a2 < 128) ∧ (-128 ≤ a3 ∧ a3 < 128) ∧ (-128 ≤ a4 ∧ a4 < 128)) (h5 : 0 ≤ a5 ∧ a5 < 256) (W : World) (hG : Glob W) :
    Calls Tryz.prog 8 #[.agg #[.int .u8 a0, .int .i8 a1, .int .i8 a2, .int .i8 a3, .int .i8 a4, .int .u8 a5]] W fun e w' => e = .returned (.bool true) ∧ Below W.heap.size W w' := by
  obtain ⟨kM, hM⟩ := make_ev a0 a1 a2 a3 a4 a5 h0 h h5
  replace hM := hM kM (Nat.le_refl _)
  obtain ⟨_, hp⟩ := primes_plan a0 h0.1 h0.2
  obtain ⟨_, hf, _⟩ := interval_few hp a1 a2 a3 a4 h
  obtain ⟨p, hpe⟩ : ∃ p, p = plan a0 := ⟨_, rfl⟩
  rw [← hpe] at hM hp hf
  obtain ⟨x, hxe⟩ : ∃ x, x = ivl p a1 a2 a3 a4 := ⟨_, rfl⟩
  rw [← hxe] at hM hf
  obtain ⟨H, hHe⟩ : ∃ H, H = hgt a5 := ⟨_, rfl⟩
  rw [← hHe] at hM
  have hh1 : 1 ≤ H := by rw [hHe]; unfold hgt; omega
  have hh2 : H ≤ 130 := by rw [hHe]; unfold hgt; omega
  by_cases hg : denN p x < numN p x
  · rw [decide_eq_true hg] at hM
    have hsp := law_spec hp (N := numN p x) (De := denN p x) H hh2
    obtain ⟨kR, hR⟩ := records_ev hp hf hh1 hh2 hg
    obtain ⟨kL, hL⟩ := list_ev hp hf hh1 hh2 hg
    obtain ⟨kW, hW⟩ := lawl_ev hp hf hh1 hh2
    replace hW := hW kW (Nat.le_refl _)
    rw [← hsp] at hW
    have hlen := spec_length hp (N := numN p x) (De := denN p x) hh2
    have hlen2 := law_length (p := p) (N := numN p x) (De := denN p x) H hh2
    have hfew := fun r hr => (spec_few hp (N := numN p x) (De := denN p x) hh2 r hr).1
    have hi := fun q hq => (law_isz hp (N := numN p x) (De := denN p x) H hh2 q hq).1
    have hpl := PL_length hp
    have hrl := recs_length (ltFb p) (spec p (numN p x) (denN p x) H) []
    obtain ⟨k1, hE1⟩ := same_ev (recs (ltFb p) [] (spec p (numN p x) (denN p x) H)) (recs (ltFb p) [] (spec p (numN p x) (denN p x) H)) (by simp only [List.length_nil] at hrl; omega) (fun r hr => by
      have := recs_mem (ltFb p) _ [] r hr
      rw [List.nil_append] at this
      rw [(hfew r this).len]; omega)
    rw [decide_eq_true rfl] at hE1
    obtain ⟨k2, hE2⟩ := same_ev ((spec p (numN p x) (denN p x) H).filter fun r => decide (numN p r = denN p r + 1)) ((spec p (numN p x) (denN p x) H).filter fun r => decide (numN p r = denN p r + 1)) (by
      have := List.length_filter_le (fun r => decide (numN p r = denN p r + 1)) (spec p (numN p x) (denN p x) H)
      omega) (fun r hr => by rw [(hfew r (List.mem_filter.1 hr).1).len]; omega)
    rw [decide_eq_true rfl] at hE2
    exact records_main a0 a1 a2 a3 a4 a5 kM (ints p) (H : Int) x W hG hM kR _ (hR kR (Nat.le_refl _)) kL _ (hL kL (Nat.le_refl _)) (by omega) (fun r => decide (numN p r = denN p r + 1)) (super_spec hp hh2) kW _ hW (by omega) (fun q hq => ⟨(hi q hq).n1, (hi q hq).d1⟩) k1 (by rw [recG_all, law_recs hp hh2]; exact hE1 k1 (Nat.le_refl _)) k2 (by rw [supG_spec hp hh2]; exact hE2 k2 (Nat.le_refl _))
  · rw [decide_eq_false hg] at hM
    exact records_known a0 a1 a2 a3 a4 a5 kM _ _ _ W hG hM
set_option maxRecDepth 100000 in
theorem commaRecords_lifted (os : Os) (started : os.Started) (H : Type) (enc : TypeId × Value → H) :
    ReturnsInHanded {} Tryz.checked os 8 .any (fun w args => (Rows.commaRecordsSpec.pre enc Tryz.prog Tryz.f8 [] false w args ∧ laidMetH Tryz.prog laid5 w) ∧ sizedMet enc Tryz.prog Tryz.f8 (OpenSpec.ofChange Rows.commaRecordsSpec) false w args)
      (Rows.commaRecordsSpec.post enc Tryz.prog Tryz.f8 false true false false) := by
  refine returnsInHanded_of_change_and (C := Tryz.checked) (X := fun w _ => laidMetH Tryz.prog laid5 w) (fun _ _ _ hh h => h.of_heap hh) own_ started (by kernel_rfl) Tryz.func8
    (ChangeSpec.witness_shaped (enc := enc) (C := Tryz.checked) (os := os) (X := fun w _ => laidMetH Tryz.prog laid5 w) false (World.doorLaid Tryz.prog 400 os) #[.agg #[.int .u8 0, .int .i8 0, .int .i8 0, .int .i8 0, .int .i8 0, .int .u8 0]] 8 rfl (World.shaped_of_RefB (by kernel_rfl) (by kernel_rfl)) (by kernel_rfl) (by kernel_rfl) (by kernel_rfl) (door_met os _)) ?_
  intro W base args ds gs before hval0 hW _ _ hL _
  have hval : ∀ (j : Nat) t v, Tryz.f8.params[j]? = some t → args[j]? = some v → Value.okWide Tryz.prog W .any base t v := hval0
  have hW' := hW
  obtain ⟨p, q, hA0, hV, rfl, hfz, hnd⟩ := hW
  have hA : DataW.TrodAll enc Tryz.prog W 0 (fun _ => true) true Tryz.f8.params.toList args.toList ds p := hA0
  rw [Tryz.params8] at hA hval
  obtain ⟨v0, vs0, d0, ds0, p0, q0, hargs, rfl, rfl, h0, r0⟩ := trodAll_cons hA
  obtain ⟨rfl, rfl, rfl⟩ := trodAll_nil r0
  obtain rfl : args = #[v0] := by cases args; simp_all
  obtain ⟨rfl, rfl⟩ := trodVars_none hV
  obtain ⟨a0, a1, a2, a3, a4, a5, rfl, b0, b1, b5, rfl⟩ := plan_open (hval 0 27 v0 rfl rfl) h0
  have hG := glob_of hL
  clear hA0 hval0
  refine (records_calls a0 a1 a2 a3 a4 a5 b0 b1 b5 W hG).mono fun e W' ⟨he, bel⟩ => ?_
  subst he
  exact ⟨_, rfl, _, _, _, [], _, [], hW', trodAll_mk1 (shut_bool Tryz.underlying4 _), (trodAll_cons_mk (Below.trod laidOut_ (by kernel_rfl) (of_decide_eq_true (by kernel_rfl)) h0 bel (fun x hx => by simp at hx)) trodAll_mk0), rfl, bel.frame _, fun h => by cases h⟩
theorem commaRecords_holds : Rows.CommaRecordsSaid :=
  OpenClaim.holds_of_wide 8 Tryz.f8 rfl rfl rfl rfl rfl rfl rfl ⟨rfl, rfl, rfl, rfl, rfl⟩ rfl rfl rfl rfl rfl (by kernel_rfl) Tryz.func8 (by kernel_rfl)
    (of_decide_eq_true (by kernel_rfl)) (by unfold Func.isWrapper; first | (rw [if_pos (by decide +kernel)]; kernel_rfl) | (rw [if_neg (by decide +kernel)]; exact ⟨rfl, rfl⟩))
    (fun os started H enc _ => commaRecords_lifted os started H enc)
theorem commaRecords_card : Rows.CommaRecordsCardSaid :=
  Claim7.holds_tied_plain_at .later [] [.data, .data, .data, .sentinel, .sentinel] true (true, "ef9bef160808dab75bcc16a36ad70f1427a7490e534792e8ba55f790fc90c504") true
    commaRecords_holds (fun _ h => by cases h) (by kernel_rfl) (fun _ h => by cases h) commaRecords_row_tie rfl ⟨rfl, rfl⟩ (by kernel_rfl) rfl
    (fun f fn hf hfn => by
      obtain rfl : f = 8 := Option.some.inj ((show Tryz.prog.funcNamed "schisma/schismalaw16.CommaRecords" = some 8 by kernel_rfl).symm.trans hf) |>.symm
      obtain rfl : fn = Tryz.f8 := (Option.some.inj (Tryz.func8.symm.trans hfn)).symm
      exact ⟨by kernel_rfl, fun j t ht => by
        rw [Tryz.params8] at ht
        have hm : t ∈ [27] := by simpa using Array.mem_of_getElem? ht
        have hall : ([27].all fun u => !Tryz.prog.wantsStandIn u) = true := by kernel_rfl
        exact (show Tryz.prog.wantsStandIn t = false by simpa using List.all_eq_true.1 hall t hm)⟩)
    (by kernel_rfl)
end Go.Proofs.YtobdccgpbohpiaaGreatDoor
