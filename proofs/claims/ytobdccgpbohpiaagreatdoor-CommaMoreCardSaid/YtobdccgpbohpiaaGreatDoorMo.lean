/- CommaMore: for any plan of a question and any lesser height, the list up to the lesser height is the beginning of the list; no inverse is in it, and the last record is the smallest interval (without the model): the row and its tied card. -/
import Derived.Test.YtobdccgpbohpiaaGreatDoorCards
import Derived.Test.YtobdccgpbohpiaaGreatDoorMo3
import Derived.Test.YtobdccgpbohpiaaGreatDoorMo33
import Derived.Test.YtobdccgpbohpiaaGreatDoorMo35
import Derived.Test.YtobdccgpbohpiaaGreatDoorTie
set_option linter.unusedVariables false
set_option linter.unusedSimpArgs false
namespace Go.Proofs.YtobdccgpbohpiaaGreatDoor
open Go.ChangeShapes Go.WideShapes Go.ChangeAt Go.RowKit F
theorem more_calls (a0 a1 a2 a3 a4 a5 b : Int) (h0 : 0 ≤ a0 ∧ a0 < 256) (h : (-128 ≤ a1 ∧ a1 < 128) ∧ (-128 ≤ a2 ∧ a2 < 128) ∧ (-128 ≤ a3 ∧ a3 < 128) ∧ (-128 ≤ a4 ∧ a4 < 128)) (h5 : 0 ≤ a5 ∧ a5 < 256) (hb : 0 ≤ b ∧ b < 256) (W : World) (hG : Glob W) :
    Calls Tryz.prog 7 #[.agg #[.int .u8 a0, .int .i8 a1, .int .i8 a2, .int .i8 a3, .int .i8 a4, .int .u8 a5], .int .u8 b] W fun e w' => e = .returned (.bool true) ∧ Below W.heap.size W w' := by
  obtain ⟨kM, hM⟩ := make_ev a0 a1 a2 a3 a4 a5 h0 h h5
  replace hM := hM kM (Nat.le_refl _)
  obtain ⟨_, hp⟩ := primes_plan a0 h0.1 h0.2
  obtain ⟨_, hf, _⟩ := interval_few hp a1 a2 a3 a4 h
  obtain ⟨p, hpe⟩ : ∃ p, p = plan a0 := ⟨_, rfl⟩
  rw [← hpe] at hM hp hf
  obtain ⟨x, hxe⟩ : ∃ x, x = ivl p a1 a2 a3 a4 := ⟨_, rfl⟩
  rw [← hxe] at hM hf
  obtain ⟨H, hHe⟩ : ∃ H, H = hgt a5 := ⟨_, rfl⟩
  rw [← hHe] at hM
  have hh1 : 1 ≤ H := by rw [hHe]; unfold hgt; omega
  have hh2 : H ≤ 130 := by rw [hHe]; unfold hgt; omega
  by_cases hg : denN p x < numN p x
  · rw [decide_eq_true hg] at hM
    have hm0 := Int.emod_nonneg b (show (H : Int) ≠ 0 by omega)
    have hm1 := Int.emod_lt_of_pos b (show (0 : Int) < (H : Int) by omega)
    obtain ⟨H2, hH2⟩ : ∃ H2 : Nat, (H2 : Int) = 1 + b % (H : Int) := ⟨1 + (b % (H : Int)).toNat, by omega⟩
    have hH2t : (H2 : Int) = 1 + Int.tmod b (H : Int) := by rw [hH2, Int.tmod_eq_emod_of_nonneg hb.1]
    obtain ⟨kL, hL⟩ := list_ev hp hf hh1 hh2 hg
    obtain ⟨kR, hR⟩ := records_ev hp hf hh1 hh2 hg
    obtain ⟨rows', hpm, hsrt, hcons⟩ := more_plain hp (N := numN p x) (De := denN p x) hh2
    obtain ⟨kS, hS⟩ := smallest_ev hp hf hh1 hh2 hg 1 (by omega) rows' hpm hsrt
    obtain ⟨kL2, hL2⟩ := list_ev hp hf (show 1 ≤ H2 by omega) (show H2 ≤ 130 by omega) hg
    obtain ⟨t, ht⟩ := spec_prefix p (numN p x) (denN p x) H2 (H - H2)
    rw [show H2 + (H - H2) = H by omega] at ht
    have hlen := spec_length hp (N := numN p x) (De := denN p x) hh2
    have hlen2 := spec_length hp (N := numN p x) (De := denN p x) (show H2 ≤ 130 by omega)
    have hfew := fun r hr => (spec_few hp (N := numN p x) (De := denN p x) hh2 r hr).1
    have hfew2 := fun r hr => (spec_few hp (N := numN p x) (De := denN p x) (show H2 ≤ 130 by omega) r hr).1
    have hpl := PL_length hp
    obtain ⟨kE, hE⟩ := same_ev (spec p (numN p x) (denN p x) H2) (spec p (numN p x) (denN p x) H2) (by omega) (fun r hr => by rw [(hfew2 r hr).len]; omega)
    rw [decide_eq_true rfl] at hE
    have h12 : ∀ r, r.length = p.length → ∃ k, schismalaw12_Same.f k r r = some true := fun r hr => by
      obtain ⟨k, hk⟩ := same12_ev r r (by rw [hr]; omega)
      rw [decide_eq_true rfl] at hk
      exact ⟨k, hk k (Nat.le_refl _)⟩
    have hrl := recs_length (ltFb p) (spec p (numN p x) (denN p x) H) []
    refine more_main a0 a1 a2 a3 a4 a5 b kM (ints p) (H : Int) x W hG hM (by omega) hb (H2 : Int) hH2t kL _ (hL kL (Nat.le_refl _)) kR _ (hR kR (Nat.le_refl _)) kS _ (hS kS (Nat.le_refl _)) kL2 _ t (hL2 kL2 (Nat.le_refl _)) ht (by omega) kE (hE kE (Nat.le_refl _)) (fun r hr => ?_) (fun hn => ?_) (fun a m ham => ?_)
    · obtain ⟨k, hk⟩ := spec_sign hp hh2 r hr
      exact ⟨k, hk k (Nat.le_refl _)⟩
    · rw [hn] at hpm ⊢
      rw [List.nil_perm.1 hpm]
      exact ⟨rfl, rfl⟩
    · obtain ⟨z, t2, rs, hz, hrs, hhd⟩ := hcons a m ham
      have hza : z ∈ spec p (numN p x) (denN p x) H := hpm.mem_iff.2 (by rw [hz]; exact List.mem_cons_self)
      refine ⟨z, rs, by rw [hz]; rfl, hrs, hhd, ?_, h12 a ?_, h12 z (hfew z hza).len⟩
      · have := congrArg List.length hrs
        rw [List.length_append] at this
        simp only [List.length_nil, List.length_singleton] at this hrl
        omega
      · exact (hfew a (by rw [ham]; exact List.mem_cons_self)).len
  · rw [decide_eq_false hg] at hM
    exact more_known a0 a1 a2 a3 a4 a5 b kM _ _ _ W hG hM
set_option maxRecDepth 100000 in
theorem commaMore_lifted (os : Os) (started : os.Started) (H : Type) (enc : TypeId × Value → H) :
    ReturnsInHanded {} Tryz.checked os 7 .any (fun w args => (Rows.commaMoreSpec.pre enc Tryz.prog Tryz.f7 [] false w args ∧ laidMetH Tryz.prog laid5 w) ∧ sizedMet enc Tryz.prog Tryz.f7 (OpenSpec.ofChange Rows.commaMoreSpec) false w args)
      (Rows.commaMoreSpec.post enc Tryz.prog Tryz.f7 false true false false) := by
  refine returnsInHanded_of_change_and (C := Tryz.checked) (X := fun w _ => laidMetH Tryz.prog laid5 w) (fun _ _ _ hh h => h.of_heap hh) own_ started (by kernel_rfl) Tryz.func7
    (ChangeSpec.witness_shaped (enc := enc) (C := Tryz.checked) (os := os) (X := fun w _ => laidMetH Tryz.prog laid5 w) false (World.doorLaid Tryz.prog 400 os) #[.agg #[.int .u8 0, .int .i8 0, .int .i8 0, .int .i8 0, .int .i8 0, .int .u8 0], .int .u8 0] 8 rfl (World.shaped_of_RefB (by kernel_rfl) (by kernel_rfl)) (by kernel_rfl) (by kernel_rfl) (by kernel_rfl) (door_met os _)) ?_
  intro W base args ds gs before hval0 hW _ _ hL _
  have hval : ∀ (j : Nat) t v, Tryz.f7.params[j]? = some t → args[j]? = some v → Value.okWide Tryz.prog W .any base t v := hval0
  have hW' := hW
  obtain ⟨p, q, hA0, hV, rfl, hfz, hnd⟩ := hW
  have hA : DataW.TrodAll enc Tryz.prog W 0 (fun _ => true) true Tryz.f7.params.toList args.toList ds p := hA0
  rw [Tryz.params7] at hA hval
  obtain ⟨v0, vs0, d0, ds0, p0, q0, hargs, rfl, rfl, h0, r0⟩ := trodAll_cons hA
  obtain ⟨v1, vs1, d1, ds1, p1, q1, rfl, rfl, rfl, h1, r1⟩ := trodAll_cons r0
  obtain ⟨rfl, rfl, rfl⟩ := trodAll_nil r1
  obtain rfl : args = #[v0, v1] := by cases args; simp_all
  obtain ⟨rfl, rfl⟩ := trodVars_none hV
  obtain ⟨a0, a1, a2, a3, a4, a5, rfl, b0, b1, b5, rfl⟩ := plan_open (hval 0 27 v0 rfl rfl) h0
  obtain ⟨b, rfl, rfl, rfl, hwb⟩ := open_int Tryz.underlying5 (hval 1 5 v1 rfl rfl) h1
  have hb := bounds_u8 hwb
  have hG := glob_of hL
  clear hA0 hval0
  refine (more_calls a0 a1 a2 a3 a4 a5 b b0 b1 b5 (by omega) W hG).mono fun e W' ⟨he, bel⟩ => ?_
  subst he
  exact ⟨_, rfl, _, _, _, [], _, [], hW', trodAll_mk1 (shut_bool Tryz.underlying4 _), (trodAll_cons_mk (Below.trod laidOut_ (by kernel_rfl) (of_decide_eq_true (by kernel_rfl)) h0 bel (fun x hx => by simp at hx)) (trodAll_cons_mk (Below.trod laidOut_ (by kernel_rfl) (of_decide_eq_true (by kernel_rfl)) h1 bel (fun x hx => by simp at hx)) trodAll_mk0)), rfl, bel.frame _, fun h => by cases h⟩
theorem commaMore_holds : Rows.CommaMoreSaid :=
  OpenClaim.holds_of_wide 7 Tryz.f7 rfl rfl rfl rfl rfl rfl rfl ⟨rfl, rfl, rfl, rfl, rfl⟩ rfl rfl rfl rfl rfl (by kernel_rfl) Tryz.func7 (by kernel_rfl)
    (of_decide_eq_true (by kernel_rfl)) (by unfold Func.isWrapper; first | (rw [if_pos (by decide +kernel)]; kernel_rfl) | (rw [if_neg (by decide +kernel)]; exact ⟨rfl, rfl⟩))
    (fun os started H enc _ => commaMore_lifted os started H enc)
theorem commaMore_card : Rows.CommaMoreCardSaid :=
  Claim7.holds_tied_plain_at .later [] [.data, .data, .data, .sentinel, .sentinel] true (true, "ef9bef160808dab75bcc16a36ad70f1427a7490e534792e8ba55f790fc90c504") true
    commaMore_holds (fun _ h => by cases h) (by kernel_rfl) (fun _ h => by cases h) commaMore_row_tie rfl ⟨rfl, rfl⟩ (by kernel_rfl) rfl
    (fun f fn hf hfn => by
      obtain rfl : f = 7 := Option.some.inj ((show Tryz.prog.funcNamed "schisma/schismalaw16.CommaMore" = some 7 by kernel_rfl).symm.trans hf) |>.symm
      obtain rfl : fn = Tryz.f7 := (Option.some.inj (Tryz.func7.symm.trans hfn)).symm
      exact ⟨by kernel_rfl, fun j t ht => by
        rw [Tryz.params7] at ht
        have hm : t ∈ [27, 5] := by simpa using Array.mem_of_getElem? ht
        have hall : ([27, 5].all fun u => !Tryz.prog.wantsStandIn u) = true := by kernel_rfl
        exact (show Tryz.prog.wantsStandIn t = false by simpa using List.all_eq_true.1 hall t hm)⟩)
    (by kernel_rfl)
end Go.Proofs.YtobdccgpbohpiaaGreatDoor
