/- Sm: a part of the proof. -/
import Derived.Shelf.RegionOpenPlain
import Derived.Test.YtobdccgpbohpiaaGreatDoorSm23
import Derived.Test.YtobdccgpbohpiaaGreatDoorSm32
import Derived.Test.YtobdccgpbohpiaaGreatDoorSm33
set_option linter.unusedVariables false
set_option linter.unusedSimpArgs false
namespace Go.Proofs.YtobdccgpbohpiaaGreatDoor
open Go.RowKit Go.Lib Go.Sort F Go.Proofs.YtobdccgpbohpiaaGreatDoorW.PrintWords Go.Proofs.YtobdccgpbohpiaaGreatDoorW.PrintLast Go.Proofs.YtobdccgpbohpiaaGreatDoorW.PrintMore
set_option maxHeartbeats 1000000 in
theorem less_calls (a b c d : Int) (W : World) (ha : 1 ≤ a ∧ a ≤ 130) (hb : 1 ≤ b ∧ b ≤ 130) (hc : 1 ≤ c ∧ c ≤ 130) (hd : 1 ≤ d ∧ d ≤ 130) :
    Calls Tryz.prog 18 #[.agg #[.int .i64 a, .int .i64 b], .agg #[.int .i64 c, .int .i64 d]] W fun e w' => e = .returned (.bool (decide (a * d < c * b))) ∧ ∃ q os', w' = grow (W.drewN q) os' := by
  have h1 : wrap64 (a * d) = a * d := by
    have := Int.mul_le_mul ha.2 hd.2 (by omega) (by omega)
    have : 0 ≤ a * d := Int.mul_nonneg (by omega) (by omega)
    exact wrap64_id (by omega)
  have h2 : wrap64 (c * b) = c * b := by
    have := Int.mul_le_mul hc.2 hb.2 (by omega) (by omega)
    have : 0 ≤ c * b := Int.mul_nonneg (by omega) (by omega)
    exact wrap64_id (by omega)
  have e1 := Aside0.mk h1
  have e2 := Aside0.mk h2
  clear h1 h2 ha hb hc hd
  go_enter Tryz.func18, Tryz.ntmps18
  go_wp2
  go_ret
  rw [e1.out, e2.out]
  exact ⟨rfl, 0, _, by rw [alloc_eq_grow, alloc_eq_grow, grow_grow]; rfl⟩
def leI (L : List (List Int × S47)) (i j : Nat) : Bool := lessP (L.getD i zRP) (L.getD j zRP)
set_option maxRecDepth 100000 in
set_option maxHeartbeats 8000000 in
theorem smallest_known (a0 a1 a2 a3 a4 a5 : Int) (kM : Nat) (p : List Int) (H : Int) (x : List Int) (is : Bool) (cnt : Int) (w : World) (hG : Glob w) (hM : schismalaw16_Make.f kM a0 a1 a2 a3 a4 a5 = some (p, H, x, is)) (hc : is = false ∨ cnt < -1 ∨ cnt > 101) :
    Calls Tryz.prog 4 #[.agg #[.int .u8 a0, .int .i8 a1, .int .i8 a2, .int .i8 a3, .int .i8 a4, .int .u8 a5], .int .i8 cnt] w fun e w' => e = .returned (.bool true) ∧ Below w.heap.size w w' := by
  have HG := Aside0.mk hG
  have HM := Aside0.mk hM
  clear hG hM
  cases is with
  | false =>
    clear hc
    go_enter Tryz.func4, Tryz.ntmps4
    go_wp2_with (first
      | (go_at_call 12; (with_reducible refine (schismalaw16_Make.calls kM a0 a1 a2 a3 a4 a5 p H x _ _ ?sG HM.out).mono ?_); (case sG => exact Glob.below HG.out (by repeat (first | exact Below.refl _ _ | apply below_alloc))); rintro e w1 ⟨v0, v2, rfl, hV, hR, hb⟩; have HV := Aside0.mk hV; have HRx := Aside0.mk hR; have HB1 := Aside0.mk (show Below w.heap.size w w1 from below_step (by repeat (first | exact Below.refl _ _ | apply below_alloc)) hb); clear hV hR hb; obtain ⟨A0, c0, rfl⟩ := Kd.V_slice HV.out; obtain ⟨A2, c2, rfl⟩ := Kd.R_slice HRx.out; have HCp := Aside0.mk (Kd.V_reads' HV.out); have HCx := Aside0.mk (Kd.R_reads' HRx.out))
      | (go_at_call 13; (with_reducible refine (g_known.calls true _ ?sG rfl).mono ?_); (case sG => exact Glob.below HG.out (below_alloc HB1.out _)); rintro e w2 ⟨rfl, hb⟩; have bq : w2.heap[w1.heap.size]? = some (.cells #[.slice A0 p.length c0, .int .i64 H, .slice A2 x.length c2] 32 (0, 0)) := (hb.block w1.heap.size (by simp only [size_alloc]; omega)).trans (by simp only [heap_alloc, size_alloc]; repeat (first | (rw [if_pos trivial]) | (rw [if_pos (by omega)]) | (rw [if_neg (by omega)]))); have hc0 : w2.cell? ⟨w1.heap.size, 0, none⟩ = some (.slice A0 p.length c0) := (by simp [World.cell?, bq]); have hc1 : w2.cell? ⟨w1.heap.size, 1, none⟩ = some (.int .i64 H) := (by simp [World.cell?, bq]); have hc2 : w2.cell? ⟨w1.heap.size, 2, none⟩ = some (.slice A2 x.length c2) := (by simp [World.cell?, bq]); have BQ := Aside0.mk bq; clear bq; have HB2 := Aside0.mk (show Below w.heap.size w w2 from below_step (below_alloc HB1.out _) hb); have HC2 := Aside0.mk (show Below w1.heap.size w1 w2 from below_step (below_alloc (Below.refl _ _) _) hb); clear hb)
      | (go_at_call 13; (with_reducible refine (g_known.calls true w2 (Glob.below HG.out HB2.out) rfl).mono ?_); rintro e w3 ⟨rfl, hb⟩; have HB3 := Aside0.mk (below_step HB2.out hb); clear hb))
    go_ret
    exact ⟨rfl, HB3.out⟩
  | true =>
    by_cases h1 : cnt < -1
    · have h1d : decide (cnt < -1) = true := decide_eq_true h1
      clear hc h1
      go_enter Tryz.func4, Tryz.ntmps4
      go_wp2_with (first
        | (go_at_call 12; (with_reducible refine (schismalaw16_Make.calls kM a0 a1 a2 a3 a4 a5 p H x _ _ ?sG HM.out).mono ?_); (case sG => exact Glob.below HG.out (by repeat (first | exact Below.refl _ _ | apply below_alloc))); rintro e w1 ⟨v0, v2, rfl, hV, hR, hb⟩; have HV := Aside0.mk hV; have HRx := Aside0.mk hR; have HB1 := Aside0.mk (show Below w.heap.size w w1 from below_step (by repeat (first | exact Below.refl _ _ | apply below_alloc)) hb); clear hV hR hb; obtain ⟨A0, c0, rfl⟩ := Kd.V_slice HV.out; obtain ⟨A2, c2, rfl⟩ := Kd.R_slice HRx.out; have HCp := Aside0.mk (Kd.V_reads' HV.out); have HCx := Aside0.mk (Kd.R_reads' HRx.out))
        | (go_at_call 13; (with_reducible refine (g_known.calls true _ ?sG rfl).mono ?_); (case sG => exact Glob.below HG.out (below_alloc HB1.out _)); rintro e w2 ⟨rfl, hb⟩; have bq : w2.heap[w1.heap.size]? = some (.cells #[.slice A0 p.length c0, .int .i64 H, .slice A2 x.length c2] 32 (0, 0)) := (hb.block w1.heap.size (by simp only [size_alloc]; omega)).trans (by simp only [heap_alloc, size_alloc]; repeat (first | (rw [if_pos trivial]) | (rw [if_pos (by omega)]) | (rw [if_neg (by omega)]))); have hc0 : w2.cell? ⟨w1.heap.size, 0, none⟩ = some (.slice A0 p.length c0) := (by simp [World.cell?, bq]); have hc1 : w2.cell? ⟨w1.heap.size, 1, none⟩ = some (.int .i64 H) := (by simp [World.cell?, bq]); have hc2 : w2.cell? ⟨w1.heap.size, 2, none⟩ = some (.slice A2 x.length c2) := (by simp [World.cell?, bq]); have BQ := Aside0.mk bq; clear bq; have HB2 := Aside0.mk (show Below w.heap.size w w2 from below_step (below_alloc HB1.out _) hb); have HC2 := Aside0.mk (show Below w1.heap.size w1 w2 from below_step (below_alloc (Below.refl _ _) _) hb); clear hb)
        | (go_at_call 13; (with_reducible refine (g_known.calls true w2 (Glob.below HG.out HB2.out) rfl).mono ?_); rintro e w3 ⟨rfl, hb⟩; have HB3 := Aside0.mk (below_step HB2.out hb); clear hb))
      go_ret
      exact ⟨rfl, HB3.out⟩
    · have h2 : cnt > 101 := by rcases hc with h | h | h; cases h; exact absurd h h1; exact h
      have h1d : decide (cnt < -1) = false := decide_eq_false h1
      have h2d : decide (cnt > 101) = true := decide_eq_true h2
      clear hc h1 h2
      go_enter Tryz.func4, Tryz.ntmps4
      go_wp2_with (first
        | (go_at_call 12; (with_reducible refine (schismalaw16_Make.calls kM a0 a1 a2 a3 a4 a5 p H x _ _ ?sG HM.out).mono ?_); (case sG => exact Glob.below HG.out (by repeat (first | exact Below.refl _ _ | apply below_alloc))); rintro e w1 ⟨v0, v2, rfl, hV, hR, hb⟩; have HV := Aside0.mk hV; have HRx := Aside0.mk hR; have HB1 := Aside0.mk (show Below w.heap.size w w1 from below_step (by repeat (first | exact Below.refl _ _ | apply below_alloc)) hb); clear hV hR hb; obtain ⟨A0, c0, rfl⟩ := Kd.V_slice HV.out; obtain ⟨A2, c2, rfl⟩ := Kd.R_slice HRx.out; have HCp := Aside0.mk (Kd.V_reads' HV.out); have HCx := Aside0.mk (Kd.R_reads' HRx.out))
        | (go_at_call 13; (with_reducible refine (g_known.calls true _ ?sG rfl).mono ?_); (case sG => exact Glob.below HG.out (below_alloc HB1.out _)); rintro e w2 ⟨rfl, hb⟩; have bq : w2.heap[w1.heap.size]? = some (.cells #[.slice A0 p.length c0, .int .i64 H, .slice A2 x.length c2] 32 (0, 0)) := (hb.block w1.heap.size (by simp only [size_alloc]; omega)).trans (by simp only [heap_alloc, size_alloc]; repeat (first | (rw [if_pos trivial]) | (rw [if_pos (by omega)]) | (rw [if_neg (by omega)]))); have hc0 : w2.cell? ⟨w1.heap.size, 0, none⟩ = some (.slice A0 p.length c0) := (by simp [World.cell?, bq]); have hc1 : w2.cell? ⟨w1.heap.size, 1, none⟩ = some (.int .i64 H) := (by simp [World.cell?, bq]); have hc2 : w2.cell? ⟨w1.heap.size, 2, none⟩ = some (.slice A2 x.length c2) := (by simp [World.cell?, bq]); have BQ := Aside0.mk bq; clear bq; have HB2 := Aside0.mk (show Below w.heap.size w w2 from below_step (below_alloc HB1.out _) hb); have HC2 := Aside0.mk (show Below w1.heap.size w1 w2 from below_step (below_alloc (Below.refl _ _) _) hb); clear hb)
        | (go_at_call 13; (with_reducible refine (g_known.calls true w2 (Glob.below HG.out HB2.out) rfl).mono ?_); rintro e w3 ⟨rfl, hb⟩; have HB3 := Aside0.mk (below_step HB2.out hb); clear hb))
      go_ret
      exact ⟨rfl, HB3.out⟩
set_option maxRecDepth 100000 in
set_option maxHeartbeats 8000000 in
theorem smallest_range (a0 a1 a2 a3 a4 a5 : Int) (kM : Nat) (p : List Int) (H : Int) (x : List Int) (cnt : Int) (w : World) (hG : Glob w) (hM : schismalaw16_Make.f kM a0 a1 a2 a3 a4 a5 = some (p, H, x, true)) (h1 : ¬ cnt < -1) (h2 : ¬ cnt > 101) (h3 : cnt < 0 ∨ cnt > 100) (kS : Nat) (hS : comma_Smallest.f kS p H x cnt = some ([], 3)) :
    Calls Tryz.prog 4 #[.agg #[.int .u8 a0, .int .i8 a1, .int .i8 a2, .int .i8 a3, .int .i8 a4, .int .u8 a5], .int .i8 cnt] w fun e w' => e = .returned (.bool true) ∧ Below w.heap.size w w' := by
  have HG := Aside0.mk hG
  have HM := Aside0.mk hM
  have HS := Aside0.mk hS
  have h1d : decide (cnt < -1) = false := decide_eq_false h1
  have h2d : decide (cnt > 101) = false := decide_eq_false h2
  have hwc : wrap64 cnt = cnt := wrap64_id (by omega)
  clear hG hM hS
  by_cases h4 : cnt < 0
  · have h4d : decide (cnt < 0) = true := decide_eq_true h4
    clear h1 h2 h3 h4
    go_enter Tryz.func4, Tryz.ntmps4
    go_wp2_with (first
      | (go_at_call 12; (with_reducible refine (schismalaw16_Make.calls kM a0 a1 a2 a3 a4 a5 p H x _ _ ?sG HM.out).mono ?_); (case sG => exact Glob.below HG.out (by repeat (first | exact Below.refl _ _ | apply below_alloc))); rintro e w1 ⟨v0, v2, rfl, hV, hR, hb⟩; have HV := Aside0.mk hV; have HRx := Aside0.mk hR; have HB1 := Aside0.mk (show Below w.heap.size w w1 from below_step (by repeat (first | exact Below.refl _ _ | apply below_alloc)) hb); clear hV hR hb; obtain ⟨A0, c0, rfl⟩ := Kd.V_slice HV.out; obtain ⟨A2, c2, rfl⟩ := Kd.R_slice HRx.out; have HCp := Aside0.mk (Kd.V_reads' HV.out); have HCx := Aside0.mk (Kd.R_reads' HRx.out))
      | (go_at_call 13; (with_reducible refine (g_known.calls true _ ?sG rfl).mono ?_); (case sG => exact Glob.below HG.out (below_alloc HB1.out _)); rintro e w2 ⟨rfl, hb⟩; have bq : w2.heap[w1.heap.size]? = some (.cells #[.slice A0 p.length c0, .int .i64 H, .slice A2 x.length c2] 32 (0, 0)) := (hb.block w1.heap.size (by simp only [size_alloc]; omega)).trans (by simp only [heap_alloc, size_alloc]; repeat (first | (rw [if_pos trivial]) | (rw [if_pos (by omega)]) | (rw [if_neg (by omega)]))); have hc0 : w2.cell? ⟨w1.heap.size, 0, none⟩ = some (.slice A0 p.length c0) := (by simp [World.cell?, bq]); have hc1 : w2.cell? ⟨w1.heap.size, 1, none⟩ = some (.int .i64 H) := (by simp [World.cell?, bq]); have hc2 : w2.cell? ⟨w1.heap.size, 2, none⟩ = some (.slice A2 x.length c2) := (by simp [World.cell?, bq]); have BQ := Aside0.mk bq; clear bq; have HB2 := Aside0.mk (show Below w.heap.size w w2 from below_step (below_alloc HB1.out _) hb); have HC2 := Aside0.mk (show Below w1.heap.size w1 w2 from below_step (below_alloc (Below.refl _ _) _) hb); clear hb)
      | (go_at_call 17; (with_reducible refine (comma_Smallest.calls kS A0 c0 p H A2 c2 x cnt _ _ w2 (Glob.below HG.out HB2.out) (Kd.C_below HCp.out.2.2 HC2.out) HCp.out.2.1 (Kd.C_below HCx.out.2.2 HC2.out) HCx.out.2.1 HS.out).mono ?_); rintro e w3 ⟨v3, rfl, hN, hb⟩; clear hc0 hc1 hc2; have bq : w3.heap[w1.heap.size]? = some (.cells #[.slice A0 p.length c0, .int .i64 H, .slice A2 x.length c2] 32 (0, 0)) := (hb.block w1.heap.size (Array.getElem?_eq_some_iff.1 BQ.out).1).trans BQ.out; have hc0 : w3.cell? ⟨w1.heap.size, 0, none⟩ = some (.slice A0 p.length c0) := (by simp [World.cell?, bq]); have hc1 : w3.cell? ⟨w1.heap.size, 1, none⟩ = some (.int .i64 H) := (by simp [World.cell?, bq]); have hc2 : w3.cell? ⟨w1.heap.size, 2, none⟩ = some (.slice A2 x.length c2) := (by simp [World.cell?, bq]); have HNl := Aside0.mk hN; have HB3 := Aside0.mk (below_step HB2.out hb); have HC3 := Aside0.mk (show Below w1.heap.size w1 w3 from below_step HC2.out hb); clear hN hb bq BQ; obtain ⟨Al, cl, rfl⟩ := Kd.N_slice HNl.out))
    go_ret
    exact ⟨rfl, HB3.out⟩
  · have h4d : decide (cnt < 0) = false := decide_eq_false h4
    have h5d : decide (cnt > 100) = true := decide_eq_true (by clear hwc; omega)
    clear h1 h2 h3 h4
    go_enter Tryz.func4, Tryz.ntmps4
    go_wp2_with (first
      | (go_at_call 12; (with_reducible refine (schismalaw16_Make.calls kM a0 a1 a2 a3 a4 a5 p H x _ _ ?sG HM.out).mono ?_); (case sG => exact Glob.below HG.out (by repeat (first | exact Below.refl _ _ | apply below_alloc))); rintro e w1 ⟨v0, v2, rfl, hV, hR, hb⟩; have HV := Aside0.mk hV; have HRx := Aside0.mk hR; have HB1 := Aside0.mk (show Below w.heap.size w w1 from below_step (by repeat (first | exact Below.refl _ _ | apply below_alloc)) hb); clear hV hR hb; obtain ⟨A0, c0, rfl⟩ := Kd.V_slice HV.out; obtain ⟨A2, c2, rfl⟩ := Kd.R_slice HRx.out; have HCp := Aside0.mk (Kd.V_reads' HV.out); have HCx := Aside0.mk (Kd.R_reads' HRx.out))
      | (go_at_call 13; (with_reducible refine (g_known.calls true _ ?sG rfl).mono ?_); (case sG => exact Glob.below HG.out (below_alloc HB1.out _)); rintro e w2 ⟨rfl, hb⟩; have bq : w2.heap[w1.heap.size]? = some (.cells #[.slice A0 p.length c0, .int .i64 H, .slice A2 x.length c2] 32 (0, 0)) := (hb.block w1.heap.size (by simp only [size_alloc]; omega)).trans (by simp only [heap_alloc, size_alloc]; repeat (first | (rw [if_pos trivial]) | (rw [if_pos (by omega)]) | (rw [if_neg (by omega)]))); have hc0 : w2.cell? ⟨w1.heap.size, 0, none⟩ = some (.slice A0 p.length c0) := (by simp [World.cell?, bq]); have hc1 : w2.cell? ⟨w1.heap.size, 1, none⟩ = some (.int .i64 H) := (by simp [World.cell?, bq]); have hc2 : w2.cell? ⟨w1.heap.size, 2, none⟩ = some (.slice A2 x.length c2) := (by simp [World.cell?, bq]); have BQ := Aside0.mk bq; clear bq; have HB2 := Aside0.mk (show Below w.heap.size w w2 from below_step (below_alloc HB1.out _) hb); have HC2 := Aside0.mk (show Below w1.heap.size w1 w2 from below_step (below_alloc (Below.refl _ _) _) hb); clear hb)
      | (go_at_call 17; (with_reducible refine (comma_Smallest.calls kS A0 c0 p H A2 c2 x cnt _ _ w2 (Glob.below HG.out HB2.out) (Kd.C_below HCp.out.2.2 HC2.out) HCp.out.2.1 (Kd.C_below HCx.out.2.2 HC2.out) HCx.out.2.1 HS.out).mono ?_); rintro e w3 ⟨v3, rfl, hN, hb⟩; clear hc0 hc1 hc2; have bq : w3.heap[w1.heap.size]? = some (.cells #[.slice A0 p.length c0, .int .i64 H, .slice A2 x.length c2] 32 (0, 0)) := (hb.block w1.heap.size (Array.getElem?_eq_some_iff.1 BQ.out).1).trans BQ.out; have hc0 : w3.cell? ⟨w1.heap.size, 0, none⟩ = some (.slice A0 p.length c0) := (by simp [World.cell?, bq]); have hc1 : w3.cell? ⟨w1.heap.size, 1, none⟩ = some (.int .i64 H) := (by simp [World.cell?, bq]); have hc2 : w3.cell? ⟨w1.heap.size, 2, none⟩ = some (.slice A2 x.length c2) := (by simp [World.cell?, bq]); have HNl := Aside0.mk hN; have HB3 := Aside0.mk (below_step HB2.out hb); have HC3 := Aside0.mk (show Below w1.heap.size w1 w3 from below_step HC2.out hb); clear hN hb bq BQ; obtain ⟨Al, cl, rfl⟩ := Kd.N_slice HNl.out))
    go_ret
    exact ⟨rfl, HB3.out⟩
end Go.Proofs.YtobdccgpbohpiaaGreatDoor
