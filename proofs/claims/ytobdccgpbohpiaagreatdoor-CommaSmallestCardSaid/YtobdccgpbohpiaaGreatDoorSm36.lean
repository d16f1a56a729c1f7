/- Sm: a part of the proof. -/
import Derived.Test.YtobdccgpbohpiaaGreatDoorSm35
set_option linter.unusedVariables false
set_option linter.unusedSimpArgs false
namespace Go.Proofs.YtobdccgpbohpiaaGreatDoor
open Go.RowKit Go.Lib Go.Sort F Go.Proofs.YtobdccgpbohpiaaGreatDoorW.PrintWords Go.Proofs.YtobdccgpbohpiaaGreatDoorW.PrintLast Go.Proofs.YtobdccgpbohpiaaGreatDoorW.PrintMore
set_option maxRecDepth 100000 in
set_option maxHeartbeats 16000000 in
theorem smallest_main (a0 a1 a2 a3 a4 a5 : Int) (kM : Nat) (p : List Int) (H : Int) (x : List Int) (c : Nat) (w : World) (hG : Glob w) (hM : schismalaw16_Make.f kM a0 a1 a2 a3 a4 a5 = some (p, H, x, true)) (hc : c ≤ 100) (kS : Nat) (RS : List (List Int)) (hS : comma_Smallest.f kS p H x (c : Int) = some (RS, 0)) (kL : Nat) (L : List (List Int × S47)) (hL : schismalaw16_list.f kL p H x = some (L.map Prod.fst, L.map Prod.snd)) (hLn : L.length ≤ 100000)
    (hLb : ∀ q ∈ L, (1 ≤ q.2.f0 ∧ q.2.f0 ≤ 130) ∧ 1 ≤ q.2.f1 ∧ q.2.f1 ≤ 130) (kE : Nat) (hE : schismalaw16_same.f kE RS (((srtG lessP zRP (L.length - 1) L).map Prod.fst).take (min L.length c)) = some true) :
    Calls Tryz.prog 4 #[.agg #[.int .u8 a0, .int .i8 a1, .int .i8 a2, .int .i8 a3, .int .i8 a4, .int .u8 a5], .int .i8 (c : Int)] w fun e w' => e = .returned (.bool true) ∧ Below w.heap.size w w' := by
  have HG := Aside0.mk hG
  have HM := Aside0.mk hM
  have HS := Aside0.mk hS
  have HL := Aside0.mk hL
  have HLn := Aside0.mk hLn
  have HLb := Aside0.mk hLb
  have HE := Aside0.mk hE
  have h1d : decide ((c : Int) < -1) = false := decide_eq_false (by omega)
  have h2d : decide ((c : Int) > 101) = false := decide_eq_false (by omega)
  have h4d : decide ((c : Int) < 0) = false := decide_eq_false (by omega)
  have h5d : decide ((c : Int) > 100) = false := decide_eq_false (by omega)
  have hwc : wrap64 (c : Int) = (c : Int) := wrap64_id (by omega)
  clear hG hM hS hL hLn hLb hE
  have HC := Aside0.mk hc
  clear hc
  go_enter Tryz.func4, Tryz.ntmps4
  go_wp2_with (first
    | (go_at_call 12; (with_reducible refine (schismalaw16_Make.calls kM a0 a1 a2 a3 a4 a5 p H x _ _ ?sG HM.out).mono ?_); (case sG => exact Glob.below HG.out (by repeat (first | exact Below.refl _ _ | apply below_alloc))); rintro e w1 ⟨v0, v2, rfl, hV, hR, hb⟩; have HV := Aside0.mk hV; have HRx := Aside0.mk hR; have HB1 := Aside0.mk (show Below w.heap.size w w1 from below_step (by repeat (first | exact Below.refl _ _ | apply below_alloc)) hb); clear hV hR hb; obtain ⟨A0, c0, rfl⟩ := Kd.V_slice HV.out; obtain ⟨A2, c2, rfl⟩ := Kd.R_slice HRx.out; have HCp := Aside0.mk (Kd.V_reads' HV.out); have HCx := Aside0.mk (Kd.R_reads' HRx.out))
    | (go_at_call 13; (with_reducible refine (g_known.calls true _ ?sG rfl).mono ?_); (case sG => exact Glob.below HG.out (below_alloc HB1.out _)); rintro e w2 ⟨rfl, hb⟩; have bq : w2.heap[w1.heap.size]? = some (.cells #[.slice A0 p.length c0, .int .i64 H, .slice A2 x.length c2] 32 (0, 0)) := (hb.block w1.heap.size (by simp only [size_alloc]; omega)).trans (by simp only [heap_alloc, size_alloc]; repeat (first | (rw [if_pos trivial]) | (rw [if_pos (by omega)]) | (rw [if_neg (by omega)]))); have hc0 : w2.cell? ⟨w1.heap.size, 0, none⟩ = some (.slice A0 p.length c0) := (by simp [World.cell?, bq]); have hc1 : w2.cell? ⟨w1.heap.size, 1, none⟩ = some (.int .i64 H) := (by simp [World.cell?, bq]); have hc2 : w2.cell? ⟨w1.heap.size, 2, none⟩ = some (.slice A2 x.length c2) := (by simp [World.cell?, bq]); have BQ := Aside0.mk bq; clear bq; have HB2 := Aside0.mk (show Below w.heap.size w w2 from below_step (below_alloc HB1.out _) hb); have HC2 := Aside0.mk (show Below w1.heap.size w1 w2 from below_step (below_alloc (Below.refl _ _) _) hb); clear hb)
    | (go_at_call 17; (with_reducible refine (comma_Smallest.calls kS A0 c0 p H A2 c2 x (c : Int) _ _ w2 (Glob.below HG.out HB2.out) (Kd.C_below HCp.out.2.2 HC2.out) HCp.out.2.1 (Kd.C_below HCx.out.2.2 HC2.out) HCx.out.2.1 HS.out).mono ?_); rintro e w3 ⟨v3, rfl, hN, hb⟩; clear hc0 hc1 hc2; have bq : w3.heap[w1.heap.size]? = some (.cells #[.slice A0 p.length c0, .int .i64 H, .slice A2 x.length c2] 32 (0, 0)) := (hb.block w1.heap.size (Array.getElem?_eq_some_iff.1 BQ.out).1).trans BQ.out; have hc0 : w3.cell? ⟨w1.heap.size, 0, none⟩ = some (.slice A0 p.length c0) := (by simp [World.cell?, bq]); have hc1 : w3.cell? ⟨w1.heap.size, 1, none⟩ = some (.int .i64 H) := (by simp [World.cell?, bq]); have hc2 : w3.cell? ⟨w1.heap.size, 2, none⟩ = some (.slice A2 x.length c2) := (by simp [World.cell?, bq]); have HNl := Aside0.mk hN; have HB3 := Aside0.mk (below_step HB2.out hb); have HC3 := Aside0.mk (show Below w1.heap.size w1 w3 from below_step HC2.out hb); clear hN hb bq BQ; obtain ⟨Al, cl, rfl⟩ := Kd.N_slice HNl.out)
    | (go_at_call 15; (with_reducible refine (schismalaw16_list.calls kL A0 c0 p H A2 c2 x _ _ w3 (Glob.below HG.out HB3.out) (Kd.C_below HCp.out.2.2 HC3.out) HCp.out.2.1 (Kd.C_below HCx.out.2.2 HC3.out) HCx.out.2.1 HL.out).mono ?_); rintro e w4 ⟨v4, v5, rfl, hS, hR, hb⟩; obtain ⟨A4, c4, hv4⟩ := Kd.S_slice hS; obtain ⟨A5, c5, hv5⟩ := Kd.R_slice hR; rw [List.length_map] at hv4 hv5; subst hv4 hv5; have HW := Aside0.mk (srt_start hS hR hb); have HB4 := Aside0.mk hb; clear hS hR hb hc0 hc1 hc2))
  obtain ⟨ga, gp, va, hA, hga, hgp, hne, hc4, hc5, hFK, hsrt⟩ := HW.out
  have HA := Aside0.mk hA
  have Hga := Aside0.mk (And.intro hga (And.intro hgp hne))
  have Hc4 := Aside0.mk (And.intro hc4 hc5)
  have HFK := Aside0.mk hFK
  have HSrt := Aside0.mk hsrt
  clear hA hga hgp hne hc4 hc5 hFK hsrt HW
  go_loopg [11] L.length (fun gg s11 wr => ∃ i : Nat, s11 = .int .i64 i ∧ 1 ≤ i ∧ (i ≤ L.length ∨ i = 1) ∧ L.length - i ≤ gg ∧ Aside0 (Srt w3 w4 ga gp va L wr (srtG (leI L) L.length (i - 1) (List.range L.length))))
  case atStart => exact ⟨1, rfl, by omega, Or.inr rfl, by omega, HSrt⟩
  case round =>
    clear HSrt
    obtain ⟨i, rfl, hi1, hi, hgg, HSrt⟩ := hrel
    have hi4 : i ≤ 100001 := by have := HLn.out; omega
    by_cases hlt : i < L.length
    · have hltd : decide ((i : Int) < (L.length : Int)) = true := decide_eq_true (by omega)
      obtain ⟨rfl, rfl⟩ := HA.out (by omega)
      go_wp2
      go_loopg [12] i (fun gg s12 wr => ∃ (k : Nat) (ix : List Nat), s12 = .int .i64 k ∧ k ≤ i ∧ k ≤ gg ∧ Aside0 (insG (leI L) L.length k ix = srtG (leI L) L.length i (List.range L.length)) ∧ Aside0 (Srt w3 w4 ga gp va L wr ix))
      case atStart => exact ⟨i, _, rfl, Nat.le_refl _, Nat.le_refl _, ⟨by obtain ⟨m, rfl⟩ : ∃ m, i = m + 1 := ⟨i - 1, by omega⟩; rfl⟩, HSrt⟩
      case round =>
        clear HSrt
        obtain ⟨k, ix, rfl, hk, hgg2, HI, HSrt⟩ := hrel
        by_cases hk0 : k = 0
        · subst hk0
          have hmo : Tryz.prog.follows Departure.mixedOrders = true := by kernel_rfl
          have hkd : decide (((0 : Nat) : Int) > 0) = false := by decide
          go_wp2_with fail
          go_quiet (fail)
          go_wp2
          go_roundg (L.length - (i + 1))
          case measure => omega
          case rel =>
            exact ⟨i + 1, (by first | rfl | exact congrArg _ (w64s (by omega))), by omega, Or.inl (by omega), Nat.le_refl _, ⟨by have h := HI.out; rw [insG] at h; rw [Nat.add_sub_cancel, ← h]; exact HSrt.out.keep (pw_below_drewN (Below.refl _ _) _) HB4.out.size⟩⟩
        · obtain ⟨j, hj⟩ : ∃ j, j + 1 = k := ⟨k - 1, by omega⟩
          have hmo : Tryz.prog.follows Departure.mixedOrders = true := by kernel_rfl
          have hkd : decide ((k : Int) > 0) = true := decide_eq_true (by omega)
          have hkp : 0 < k := by omega
          have hkn : (k : Int) < (L.length : Int) := by omega
          have hjn : (j : Int) < (L.length : Int) := by omega
          have hj0 : wrap64 ((k : Int) - 1) = (j : Int) := by rw [wrap64_id (by omega)]; omega
          have hj1 : IntKind.i64.wrap ((k : Int) - 1) = (j : Int) := by rw [IntKind.wrap_i64]; omega
          have N1 := Aside0.mk (fun n os => leI_calls HLb.out (HSrt.out.lt k (by omega)) (HSrt.out.lt j (by omega)) (grow (wr.drewN n) os))
          obtain ⟨p1, p2, p3, p4⟩ := HSrt.out.cellP (t := k) (by omega)
          obtain ⟨p5, p6, p7, p8⟩ := HSrt.out.cellP (t := j) (by omega)
          obtain ⟨u0, hu0⟩ : ∃ u, u = (L.getD (ix.getD k L.length) zRP).2.f0 := ⟨_, rfl⟩
          obtain ⟨u1, hu1⟩ : ∃ u, u = (L.getD (ix.getD k L.length) zRP).2.f1 := ⟨_, rfl⟩
          obtain ⟨u2, hu2⟩ : ∃ u, u = (L.getD (ix.getD j L.length) zRP).2.f0 := ⟨_, rfl⟩
          obtain ⟨u3, hu3⟩ : ∃ u, u = (L.getD (ix.getD j L.length) zRP).2.f1 := ⟨_, rfl⟩
          rw [← hu0, ← hu1, ← hu2, ← hu3] at N1
          rw [← hu0] at p1
          rw [← hu1] at p2
          rw [← hu2] at p5
          rw [← hu3] at p6
          have HU := Aside0.mk (And.intro hu0 (And.intro hu1 (And.intro hu2 hu3)))
          clear hu0 hu1 hu2 hu3
          have hgl : gp < wr.heap.size := (World.block_lt_of_cell? wr _ p1)
          have f1 := cell_grown hgl p1
          have f2 := cell_grown hgl p2
          have f3 := cell_grown hgl p5
          have f4 := cell_grown hgl p6
          clear hgl p1 p2 p3 p4 p5 p6 p7 p8
          have HI2 := HI.out
          have HJ := Aside0.mk hj
          rw [← hj, insG, hj] at HI2
          cases hb : leI L (ix.getD k L.length) (ix.getD j L.length) with
          | false =>
            rw [hb, if_neg (by decide)] at HI2
            rw [hb] at N1
            have HI3 := Aside0.mk HI2
            clear HI2 hb hj
            go_wp2_with fail
            go_quiet_grown ((go_at_call 18; with_reducible refine Calls.grown_of (N1.out _ _)))
            go_wp2
            go_roundg (L.length - (i + 1))
            case measure => omega
            case rel =>
              exact ⟨i + 1, (by first | rfl | exact congrArg _ (w64s (by omega))), by omega, Or.inl (by omega), Nat.le_refl _, ⟨by rw [Nat.add_sub_cancel, ← HI3.out]; exact HSrt.out.keep (bel_grow _ _ _) HB4.out.size⟩⟩
          | true =>
            rw [hb, if_pos rfl] at HI2
            rw [hb] at N1
            have HI3 := Aside0.mk HI2
            clear HI2 hb hj
            go_wp2_with fail
            go_quiet_grown ((go_at_call 18; with_reducible refine Calls.grown_of (N1.out _ _)))
            have HS7 := Aside0.mk (HSrt.out.keep (w' := grow (wr.drewN nq) osq) (bel_grow _ _ _) HB4.out.size)
            clear HSrt f1 f2 f3 f4 N1
            generalize grow (wr.drewN nq) osq = w7 at HS7 ⊢
            obtain ⟨q1, q2⟩ := HS7.out.cellA (t := k) (by omega)
            obtain ⟨q3, q4⟩ := HS7.out.cellA (t := j) (by omega)
            obtain ⟨p1, p2, p3, p4⟩ := HS7.out.cellP (t := k) (by omega)
            obtain ⟨p5, p6, p7, p8⟩ := HS7.out.cellP (t := j) (by omega)
            rw [← HU.out.1] at p1
            rw [← HU.out.2.1] at p2
            rw [← HU.out.2.2.1] at p5
            rw [← HU.out.2.2.2] at p6
            obtain ⟨Ak, ck, ek, _, _⟩ := Kd.FK_slice_open (HFK.out _ (HS7.out.lt k (by omega)))
            obtain ⟨Aj, cj, ej, _, _⟩ := Kd.FK_slice_open (HFK.out _ (HS7.out.lt j (by omega)))
            have ek' := (List.cons.inj ek).1
            have ej' := (List.cons.inj ej).1
            rw [ek'] at q1
            rw [ej'] at q3
            have EK := Aside0.mk (And.intro ek' ej')
            clear ek ej ek' ej'
            generalize (L.getD (ix.getD k L.length) zRP).1.length = lk at q1 EK
            generalize (L.getD (ix.getD j L.length) zRP).1.length = lj at q3 EK
            have hgne := Hga.out.2.2
            have hjk : ¬ k = j := by have := HJ.out; omega
            have t1 : (w7.setCell ⟨ga, k, none⟩ (.slice Aj lj cj)).cell? ⟨ga, j, none⟩ = some (.slice Aj lj cj) := by rw [cell_other (fun h => hjk h.2)]; exact q3
            have t2 : ((w7.setCell ⟨ga, k, none⟩ (.slice Aj lj cj)).setCell ⟨ga, j, none⟩ (.slice Ak lk ck)).cell? ⟨gp, k * 2, none⟩ = some (.int .i64 u0) := by rw [cell_other (fun h => hgne h.1), cell_other (fun h => hgne h.1)]; exact p1
            have t3 : ((w7.setCell ⟨ga, k, none⟩ (.slice Aj lj cj)).setCell ⟨ga, j, none⟩ (.slice Ak lk ck)).cell? ⟨gp, k * 2 + 1, none⟩ = some (.int .i64 u1) := by rw [cell_other (fun h => hgne h.1), cell_other (fun h => hgne h.1)]; exact p2
            have t4 : ((w7.setCell ⟨ga, k, none⟩ (.slice Aj lj cj)).setCell ⟨ga, j, none⟩ (.slice Ak lk ck)).cell? ⟨gp, j * 2, none⟩ = some (.int .i64 u2) := by rw [cell_other (fun h => hgne h.1), cell_other (fun h => hgne h.1)]; exact p5
            have t5 : ((w7.setCell ⟨ga, k, none⟩ (.slice Aj lj cj)).setCell ⟨ga, j, none⟩ (.slice Ak lk ck)).cell? ⟨gp, j * 2 + 1, none⟩ = some (.int .i64 u3) := by rw [cell_other (fun h => hgne h.1), cell_other (fun h => hgne h.1)]; exact p6
            go_wp2_with fail
            go_region_o
            go_wp2
            go_roundg j
            case measure => have := HJ.out; omega
            case rel => exact ⟨j, _, rfl, by have := HJ.out; omega, Nat.le_refl _, HI3, ⟨(HS7.out.swap Hga.out.1 Hga.out.2.1 hgne HJ.out (by omega) EK.out.2.symm EK.out.1.symm (by rw [HU.out.2.2.1]) (by rw [HU.out.2.2.2]) (by rw [HU.out.1]) (by rw [HU.out.2.1])).keep (below_drew (Below.refl _ _)) HB4.out.size⟩⟩
    · have hltd : decide ((i : Int) < (L.length : Int)) = false := decide_eq_false (by omega)
      have hi2 : i - 1 = L.length - 1 := by omega
      have hfin := HSrt.out.C (fun hn => (HA.out hn).1) HLn.out HFK.out (Nat.min_le_left L.length c)
      rw [hi2, sortI L (L.length - 1) (by omega)] at hfin
      obtain ⟨FR, hFR⟩ : ∃ FR, FR = ((srtG lessP zRP (L.length - 1) L).map Prod.fst).take (min L.length c) := ⟨_, rfl⟩
      rw [← hFR] at hfin HE
      have HMin := Aside0.mk (show (min (L.length : Int) (c : Int)).toNat = FR.length by rw [hfin.1]; omega)
      have HFC := Aside0.mk (show Kd.C (Kd.slice 3 (Kd.int .i64)) wr A4 FR.length FR by have h := hfin; rw [← h.1] at h; exact h)
      have HFc := Aside0.mk (show FR.length ≤ c4 by rw [hfin.1]; have := Hc4.out.1; omega)
      have HNv := Aside0.mk (Kd.V_reads' (Kd.N_V (base' := 0) HNl.out))
      have hm1 : min (L.length : Int) (c : Int) ≤ (c4 : Int) := by have := Hc4.out.1; omega
      have hm0 : 0 ≤ min (L.length : Int) (c : Int) := by omega
      clear hfin hFR hi2
      go_wp2_with (go_at_call 16; rw [HMin.out]; (with_reducible refine (schismalaw16_same.calls kE Al cl RS A4 c4 FR true _ (Kd.C_below HNv.out.2.2 HSrt.out.bel) HNv.out.2.1 HFC.out HFc.out HE.out).mono ?_); rintro e w5 ⟨rfl, hd⟩; have HD := Aside0.mk hd.below; clear hd)
      go_ret
      exact ⟨rfl, below_step (below_step HB3.out HSrt.out.bel) HD.out⟩
end Go.Proofs.YtobdccgpbohpiaaGreatDoor
