/- CommaSmallest: for any plan of a question and any count from -1 to 101, Smallest returns the smallest intervals, in order of size, or ErrRange: the row and its tied card. -/
import Derived.Test.YtobdccgpbohpiaaGreatDoorCards
import Derived.Test.YtobdccgpbohpiaaGreatDoorSm3
import Derived.Test.YtobdccgpbohpiaaGreatDoorSm36
import Derived.Test.YtobdccgpbohpiaaGreatDoorTie
set_option linter.unusedVariables false
set_option linter.unusedSimpArgs false
namespace Go.Proofs.YtobdccgpbohpiaaGreatDoor
open Go.ChangeShapes Go.WideShapes Go.ChangeAt Go.RowKit F
theorem small_range_ev {p : List Nat} (hp : p ∈ PL) {x : List Int} (h : Few p x) {H : Nat} (h1 : 1 ≤ H) (h2 : H ≤ 130) (hg : denN p x < numN p x) (c : Int) (hc : c < 0 ∨ c > 100) : Ev (fun k => comma_Smallest.f k (ints p) (H : Int) x c) ([], 3) := by
  unfold comma_Smallest.f
  refine Ev.bind (check_ev hp h h1 h2 hg) (Ev.pos rfl ?_)
  by_cases h0 : c < 0
  · exact Ev.pos h0 (Ev.succ (fun k => by rw [comma_Smallest.j0]) (Ev.pos rfl (Ev.pure _)))
  · refine Ev.neg h0 ?_
    rw [decide_eq_true (by omega : c > 100)]
    exact Ev.succ (fun k => by rw [comma_Smallest.j0]) (Ev.pos rfl (Ev.pure _))
theorem small_calls (a0 a1 a2 a3 a4 a5 cnt : Int) (h0 : 0 ≤ a0 ∧ a0 < 256) (h : (-128 ≤ a1 ∧ a1 < 128) ∧ (-128 ≤ a2 ∧ a2 < 128) ∧ (-128 ≤ a3 ∧ a3 < 128) ∧ (-128 ≤ a4 ∧ a4 < 128)) (h5 : 0 ≤ a5 ∧ a5 < 256) (W : World) (hG : Glob W) :
    Calls Tryz.prog 4 #[.agg #[.int .u8 a0, .int .i8 a1, .int .i8 a2, .int .i8 a3, .int .i8 a4, .int .u8 a5], .int .i8 cnt] W fun e w' => e = .returned (.bool true) ∧ Below W.heap.size W w' := by
  obtain ⟨kM, hM⟩ := make_ev a0 a1 a2 a3 a4 a5 h0 h h5
  replace hM := hM kM (Nat.le_refl _)
  obtain ⟨_, hp⟩ := primes_plan a0 h0.1 h0.2
  obtain ⟨_, hf, _⟩ := interval_few hp a1 a2 a3 a4 h
  have hh1 : 1 ≤ hgt a5 := by unfold hgt; omega
  have hh2 : hgt a5 ≤ 130 := by unfold hgt; omega
  by_cases hg : denN (plan a0) (ivl (plan a0) a1 a2 a3 a4) < numN (plan a0) (ivl (plan a0) a1 a2 a3 a4)
  · rw [decide_eq_true hg] at hM
    by_cases hc : cnt < -1 ∨ cnt > 101
    · exact smallest_known a0 a1 a2 a3 a4 a5 kM _ _ _ true cnt W hG hM (.inr hc)
    · by_cases hr : cnt < 0 ∨ cnt > 100
      · obtain ⟨kS, hS⟩ := small_range_ev hp hf hh1 hh2 hg cnt hr
        exact smallest_range a0 a1 a2 a3 a4 a5 kM _ _ _ cnt W hG hM (by omega) (by omega) hr kS (hS kS (Nat.le_refl _))
      · obtain ⟨c, rfl⟩ := Int.eq_ofNat_of_zero_le (show 0 ≤ cnt by omega)
        obtain ⟨hb1, hb2⟩ := bySize_ok hp (N := numN (plan a0) (ivl (plan a0) a1 a2 a3 a4)) (De := denN (plan a0) (ivl (plan a0) a1 a2 a3 a4)) hh2
        have hsp := law_spec hp (N := numN (plan a0) (ivl (plan a0) a1 a2 a3 a4)) (De := denN (plan a0) (ivl (plan a0) a1 a2 a3 a4)) (hgt a5) hh2
        have hpm := hb1.symm.map Prod.fst
        rw [hsp] at hpm
        obtain ⟨kS, hS⟩ := smallest_ev hp hf hh1 hh2 hg c (by omega) _ hpm hb2
        obtain ⟨kL, hL⟩ := lawl_ev hp hf hh1 hh2
        replace hL := hL kL (Nat.le_refl _)
        rw [← hsp] at hL
        have hlen := law_length (p := plan a0) (N := numN (plan a0) (ivl (plan a0) a1 a2 a3 a4)) (De := denN (plan a0) (ivl (plan a0) a1 a2 a3 a4)) (hgt a5) hh2
        have hrow := fun r : List Int => hpm.mem_iff (a := r)
        have hi := fun q hq => (law_isz hp (N := numN (plan a0) (ivl (plan a0) a1 a2 a3 a4)) (De := denN (plan a0) (ivl (plan a0) a1 a2 a3 a4)) (hgt a5) hh2 q hq).1
        have hl2 := hb1.length_eq
        have hE := same_ev (((bySize (law (plan a0) (numN (plan a0) (ivl (plan a0) a1 a2 a3 a4)) (denN (plan a0) (ivl (plan a0) a1 a2 a3 a4)) (hgt a5))).map Prod.fst).take c) (((bySize (law (plan a0) (numN (plan a0) (ivl (plan a0) a1 a2 a3 a4)) (denN (plan a0) (ivl (plan a0) a1 a2 a3 a4)) (hgt a5))).map Prod.fst).take (min (law (plan a0) (numN (plan a0) (ivl (plan a0) a1 a2 a3 a4)) (denN (plan a0) (ivl (plan a0) a1 a2 a3 a4)) (hgt a5)).length c)) (by rw [List.length_take, List.length_map]; omega) (fun r hr => by
          have hr2 := (hrow r).2 (List.mem_of_mem_take hr)
          have := (spec_few hp hh2 r hr2).1.len
          have := PL_length hp
          omega)
        rw [decide_eq_true (by
          by_cases hcl : c ≤ (law (plan a0) (numN (plan a0) (ivl (plan a0) a1 a2 a3 a4)) (denN (plan a0) (ivl (plan a0) a1 a2 a3 a4)) (hgt a5)).length
          · rw [Nat.min_eq_right hcl]
          · rw [List.take_of_length_le (by rw [List.length_map]; omega), List.take_of_length_le (by rw [List.length_map]; omega)])] at hE
        obtain ⟨kE, hE⟩ := hE
        exact smallest_main a0 a1 a2 a3 a4 a5 kM _ _ _ c W hG hM (by omega) kS _ (hS kS (Nat.le_refl _)) kL _ hL (by omega) (fun q hq => ⟨(hi q hq).n1, (hi q hq).d1⟩) kE (hE kE (Nat.le_refl _))
  · rw [decide_eq_false hg] at hM
    exact smallest_known a0 a1 a2 a3 a4 a5 kM _ _ _ false cnt W hG hM (.inl rfl)
set_option maxRecDepth 100000 in
theorem commaSmallest_lifted (os : Os) (started : os.Started) (H : Type) (enc : TypeId × Value → H) :
    ReturnsInHanded {} Tryz.checked os 4 .any (fun w args => (Rows.commaSmallestSpec.pre enc Tryz.prog Tryz.f4 [] false w args ∧ laidMetH Tryz.prog laid5 w) ∧ sizedMet enc Tryz.prog Tryz.f4 (OpenSpec.ofChange Rows.commaSmallestSpec) false w args)
      (Rows.commaSmallestSpec.post enc Tryz.prog Tryz.f4 false true false false) := by
  refine returnsInHanded_of_change_and (C := Tryz.checked) (X := fun w _ => laidMetH Tryz.prog laid5 w) (fun _ _ _ hh h => h.of_heap hh) own_ started (by kernel_rfl) Tryz.func4
    (ChangeSpec.witness_shaped (enc := enc) (C := Tryz.checked) (os := os) (X := fun w _ => laidMetH Tryz.prog laid5 w) false (World.doorLaid Tryz.prog 400 os) #[.agg #[.int .u8 0, .int .i8 0, .int .i8 0, .int .i8 0, .int .i8 0, .int .u8 0], .int .i8 0] 8 rfl (World.shaped_of_RefB (by kernel_rfl) (by kernel_rfl)) (by kernel_rfl) (by kernel_rfl) (by kernel_rfl) (door_met os _)) ?_
  intro W base args ds gs before hval0 hW _ _ hL _
  have hval : ∀ (j : Nat) t v, Tryz.f4.params[j]? = some t → args[j]? = some v → Value.okWide Tryz.prog W .any base t v := hval0
  have hW' := hW
  obtain ⟨p, q, hA0, hV, rfl, hfz, hnd⟩ := hW
  have hA : DataW.TrodAll enc Tryz.prog W 0 (fun _ => true) true Tryz.f4.params.toList args.toList ds p := hA0
  rw [Tryz.params4] at hA hval
  obtain ⟨v0, vs0, d0, ds0, p0, q0, hargs, rfl, rfl, h0, r0⟩ := trodAll_cons hA
  obtain ⟨v1, vs1, d1, ds1, p1, q1, rfl, rfl, rfl, h1, r1⟩ := trodAll_cons r0
  obtain ⟨rfl, rfl, rfl⟩ := trodAll_nil r1
  obtain rfl : args = #[v0, v1] := by cases args; simp_all
  obtain ⟨rfl, rfl⟩ := trodVars_none hV
  obtain ⟨a0, a1, a2, a3, a4, a5, rfl, b0, b1, b5, rfl⟩ := plan_open (hval 0 27 v0 rfl rfl) h0
  obtain ⟨cnt, rfl, rfl, rfl, _⟩ := open_int Tryz.underlying22 (hval 1 22 v1 rfl rfl) h1
  have hG := glob_of hL
  clear hA0 hval0
  refine (small_calls a0 a1 a2 a3 a4 a5 cnt b0 b1 b5 W hG).mono fun e W' ⟨he, bel⟩ => ?_
  subst he
  exact ⟨_, rfl, _, _, _, [], _, [], hW', trodAll_mk1 (shut_bool Tryz.underlying4 _), (trodAll_cons_mk (Below.trod laidOut_ (by kernel_rfl) (of_decide_eq_true (by kernel_rfl)) h0 bel (fun x hx => by simp at hx)) (trodAll_cons_mk (Below.trod laidOut_ (by kernel_rfl) (of_decide_eq_true (by kernel_rfl)) h1 bel (fun x hx => by simp at hx)) trodAll_mk0)), rfl, bel.frame _, fun h => by cases h⟩
theorem commaSmallest_holds : Rows.CommaSmallestSaid :=
  OpenClaim.holds_of_wide 4 Tryz.f4 rfl rfl rfl rfl rfl rfl rfl ⟨rfl, rfl, rfl, rfl, rfl⟩ rfl rfl rfl rfl rfl (by kernel_rfl) Tryz.func4 (by kernel_rfl)
    (of_decide_eq_true (by kernel_rfl)) (by unfold Func.isWrapper; first | (rw [if_pos (by decide +kernel)]; kernel_rfl) | (rw [if_neg (by decide +kernel)]; exact ⟨rfl, rfl⟩))
    (fun os started H enc _ => commaSmallest_lifted os started H enc)
theorem commaSmallest_card : Rows.CommaSmallestCardSaid :=
  Claim7.holds_tied_plain_at .later [] [.data, .data, .data, .sentinel, .sentinel] true (true, "ef9bef160808dab75bcc16a36ad70f1427a7490e534792e8ba55f790fc90c504") true
    commaSmallest_holds (fun _ h => by cases h) (by kernel_rfl) (fun _ h => by cases h) commaSmallest_row_tie rfl ⟨rfl, rfl⟩ (by kernel_rfl) rfl
    (fun f fn hf hfn => by
      obtain rfl : f = 4 := Option.some.inj ((show Tryz.prog.funcNamed "schisma/schismalaw16.CommaSmallest" = some 4 by kernel_rfl).symm.trans hf) |>.symm
      obtain rfl : fn = Tryz.f4 := (Option.some.inj (Tryz.func4.symm.trans hfn)).symm
      exact ⟨by kernel_rfl, fun j t ht => by
        rw [Tryz.params4] at ht
        have hm : t ∈ [27, 22] := by simpa using Array.mem_of_getElem? ht
        have hall : ([27, 22].all fun u => !Tryz.prog.wantsStandIn u) = true := by kernel_rfl
        exact (show Tryz.prog.wantsStandIn t = false by simpa using List.all_eq_true.1 hall t hm)⟩)
    (by kernel_rfl)
end Go.Proofs.YtobdccgpbohpiaaGreatDoor
