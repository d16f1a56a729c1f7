/- Ch: a part of the proof. -/
import Derived.Test.YtobdccgpbohpiaaGreatDoorCh33
import Derived.Test.YtobdccgpbohpiaaGreatDoorCh34
import Derived.Test.YtobdccgpbohpiaaGreatDoorCh36
import Derived.Test.YtobdccgpbohpiaaGreatDoorCh37
set_option linter.unusedVariables false
set_option linter.unusedSimpArgs false
namespace Go.Proofs.YtobdccgpbohpiaaGreatDoor
open Go.RowKit Go.Lib F Go.Proofs.YtobdccgpbohpiaaGreatDoorW.PrintWords Go.Proofs.YtobdccgpbohpiaaGreatDoorW.PrintLast Go.Proofs.YtobdccgpbohpiaaGreatDoorW.PrintMore
set_option maxRecDepth 100000 in
set_option maxHeartbeats 4000000 in
theorem in_err (k : Nat) (A0 : Option Addr) (c0 : Nat) (p : List Int) (H : Int) (A1 : Option Addr) (c1 : Nat) (x : List Int) (e : Int) (Am : Option Addr) (nm cm : Nat) (w : World) (hG : Glob w) (hr0 : Kd.C (Kd.int .i64) w A0 p.length p) (hc0 : p.length ≤ c0) (hr1 : Kd.C (Kd.int .i64) w A1 x.length x) (hc1 : x.length ≤ c1) (h : comma_Check.f k p H x = some e) (he : ¬ e = 0) :
    Calls Tryz.prog 30 #[.agg #[.slice A0 p.length c0, .int .i64 H, .slice A1 x.length c1], .slice Am nm cm] w fun e' w' => e' = .returned (.tuple #[.slice none 0 0, .int .i64 e]) ∧ Below w.heap.size w w' := by
  have HG := Aside0.mk hG
  have HR0 := Aside0.mk hr0
  have HC0 := Aside0.mk hc0
  have HR1 := Aside0.mk hr1
  have HC1 := Aside0.mk hc1
  clear hG hr0 hc0 hr1 hc1
  have HCk := Aside0.mk h
  have hed : (e == 0) = false := beq_eq_false_iff_ne.mpr he
  have hed2 : (e != 0) = true := bne_iff_ne.mpr he
  clear h
  go_enter Tryz.func30, Tryz.ntmps30
  go_wp2_with (go_at_call 33; (with_reducible refine (comma_Check.calls k A0 c0 p H A1 c1 x e _ (Glob.below HG.out (below_alloc (below_alloc (Below.refl _ _) _) _)) (Kd.C_alloc (Kd.C_alloc HR0.out _) _) HC0.out (Kd.C_alloc (Kd.C_alloc HR1.out _) _) HC1.out HCk.out).mono ?_); rintro e1 w1 ⟨rfl, hb⟩; have HB1 := Aside0.mk (show Below w.heap.size w w1 from below_step (below_alloc (below_alloc (Below.refl _ _) _) _) hb); clear hb)
  go_ret2
  exact ⟨rfl, HB1.out⟩
set_option maxRecDepth 100000 in
set_option maxHeartbeats 4000000 in
theorem least_err (k : Nat) (A0 : Option Addr) (c0 : Nat) (p : List Int) (H : Int) (A1 : Option Addr) (c1 : Nat) (x : List Int) (e : Int) (Am : Option Addr) (nm cm : Nat) (w : World) (hG : Glob w) (hr0 : Kd.C (Kd.int .i64) w A0 p.length p) (hc0 : p.length ≤ c0) (hr1 : Kd.C (Kd.int .i64) w A1 x.length x) (hc1 : x.length ≤ c1) (h : comma_Check.f k p H x = some e) (he : ¬ e = 0) :
    Calls Tryz.prog 31 #[.agg #[.slice A0 p.length c0, .int .i64 H, .slice A1 x.length c1], .slice Am nm cm] w fun e' w' => e' = .returned (.tuple #[.slice none 0 0, .bool false, .int .i64 e]) ∧ Below w.heap.size w w' := by
  have HG := Aside0.mk hG
  have HR0 := Aside0.mk hr0
  have HC0 := Aside0.mk hc0
  have HR1 := Aside0.mk hr1
  have HC1 := Aside0.mk hc1
  clear hG hr0 hc0 hr1 hc1
  have HCk := Aside0.mk h
  have He := Aside0.mk he
  have hed : (e == 0) = false := beq_eq_false_iff_ne.mpr he
  have hed2 : (e != 0) = true := bne_iff_ne.mpr he
  clear h
  go_enter Tryz.func31, Tryz.ntmps31
  go_wp2_with (go_at_call 30; (with_reducible refine (in_err k A0 c0 p H A1 c1 x e Am nm cm _ (Glob.below HG.out (below_alloc (Below.refl _ _) _)) (Kd.C_alloc HR0.out _) HC0.out (Kd.C_alloc HR1.out _) HC1.out HCk.out He.out).mono ?_); rintro e1 w1 ⟨rfl, hb⟩; have HB1 := Aside0.mk (show Below w.heap.size w w1 from below_step (below_alloc (Below.refl _ _) _) hb); clear hb)
  go_ret3
  exact ⟨rfl, HB1.out⟩
set_option maxRecDepth 100000 in
set_option maxHeartbeats 16000000 in
theorem checks_calls (A0 : Option Addr) (c0 : Nat) (p : List Int) (H : Int) (A1 : Option Addr) (c1 : Nat) (x : List Int) (w : World) (hG : Glob w) (hr0 : Kd.C (Kd.int .i64) w A0 p.length p) (hc0 : p.length ≤ c0) (hr1 : Kd.C (Kd.int .i64) w A1 x.length x) (hc1 : x.length ≤ c1) :
    Calls Tryz.prog 10 #[.slice A0 p.length c0, .slice A1 x.length c1, .int .i64 H] w fun e w' => e = .returned (.bool true) ∧ Below w.heap.size w w' := by
  have HG := Aside0.mk hG
  have HR0 := Aside0.mk hr0
  have HC0 := Aside0.mk hc0
  have HR1 := Aside0.mk hr1
  have HC1 := Aside0.mk hc1
  clear hG hr0 hc0 hr1 hc1
  by_cases hp : (p.length : Int) > 8
  · have hpd : decide ((p.length : Int) > 8) = true := decide_eq_true hp
    go_enter Tryz.func10, Tryz.ntmps10
    go_wp2_with (first
      | (go_at_call 13; (with_reducible refine (g_known.calls true w HG.out rfl).mono ?_); rintro e1 w1 ⟨rfl, hb⟩; have HB1 := Aside0.mk hb; clear hb)
      | (go_at_call 13; (with_reducible refine (g_known.calls true w1 (Glob.below HG.out HB1.out) rfl).mono ?_); rintro e2 w2 ⟨rfl, hb⟩; have HB2 := Aside0.mk (below_step HB1.out hb); clear hb))
    go_ret
    exact ⟨rfl, HB2.out⟩
  have hpd : decide ((p.length : Int) > 8) = false := decide_eq_false hp
  by_cases hx : (x.length : Int) > 8
  · have hxd : decide ((x.length : Int) > 8) = true := decide_eq_true hx
    go_enter Tryz.func10, Tryz.ntmps10
    go_wp2_with (first
      | (go_at_call 13; (with_reducible refine (g_known.calls true w HG.out rfl).mono ?_); rintro e1 w1 ⟨rfl, hb⟩; have HB1 := Aside0.mk hb; clear hb)
      | (go_at_call 13; (with_reducible refine (g_known.calls true w1 (Glob.below HG.out HB1.out) rfl).mono ?_); rintro e2 w2 ⟨rfl, hb⟩; have HB2 := Aside0.mk (below_step HB1.out hb); clear hb))
    go_ret
    exact ⟨rfl, HB2.out⟩
  have hxd : decide ((x.length : Int) > 8) = false := decide_eq_false hx
  by_cases hh : H > 200 ∧ H ≤ 5000
  · have h1d : decide (H > 200) = true := decide_eq_true hh.1
    have h2d : decide (H ≤ 5000) = true := decide_eq_true hh.2
    go_enter Tryz.func10, Tryz.ntmps10
    go_wp2_with (first
      | (go_at_call 13; (with_reducible refine (g_known.calls true w HG.out rfl).mono ?_); rintro e1 w1 ⟨rfl, hb⟩; have HB1 := Aside0.mk hb; clear hb)
      | (go_at_call 13; (with_reducible refine (g_known.calls true w1 (Glob.below HG.out HB1.out) rfl).mono ?_); rintro e2 w2 ⟨rfl, hb⟩; have HB2 := Aside0.mk (below_step HB1.out hb); clear hb))
    go_ret
    exact ⟨rfl, HB2.out⟩
  obtain ⟨e, ⟨kc, hck⟩, ⟨kl, hlw⟩⟩ := checks_gen p x H (by omega)
  have hcE : Ev (fun k => comma_Check.f k p H x) e := ⟨kc, hck⟩
  have HCk := Aside0.mk (hck kc (Nat.le_refl _))
  have HLw := Aside0.mk (hlw kl (Nat.le_refl _))
  clear hck hlw
  have hgd : (decide (H > 200) = false) ∨ (decide (H > 200) = true ∧ decide (H ≤ 5000) = false) := by
    by_cases h1 : H > 200
    · exact .inr ⟨decide_eq_true h1, decide_eq_false (fun h2 => hh ⟨h1, h2⟩)⟩
    · exact .inl (decide_eq_false h1)
  by_cases he : e = 0
  · subst he
    clear hcE hp hx hh
    rcases hgd with h1d | ⟨h1d, h2d⟩
    all_goals
      go_enter Tryz.func10, Tryz.ntmps10
      go_wp2_with (first
        | (go_at_call 13; (with_reducible refine (g_known.calls true w HG.out rfl).mono ?_); rintro e1 w1 ⟨rfl, hb⟩; have HB1 := Aside0.mk hb; clear hb)
        | (go_at_call 32; (with_reducible refine (schismalaw16_check.calls kl A0 c0 p H A1 c1 x 0 _ (Glob.below HG.out (below_alloc HB1.out _)) (Kd.C_below HR0.out (below_alloc HB1.out _)) HC0.out (Kd.C_below HR1.out (below_alloc HB1.out _)) HC1.out HLw.out).mono ?_); rintro e2 w2 ⟨rfl, hb⟩; have bq : w2.heap[w1.heap.size]? = some (.cells #[.slice A0 p.length c0, .int .i64 H, .slice A1 x.length c1] 32 (0, 0)) := (hb.block w1.heap.size (by simp only [size_alloc]; omega)).trans (by simp only [heap_alloc]; rw [if_pos trivial]); obtain ⟨hc0, hc1, hc2⟩ := q_cells bq; have BQ := Aside0.mk bq; clear bq; have HB2 := Aside0.mk (below_step (below_alloc HB1.out _) hb); clear hb)
        | (go_at_call 33; (with_reducible refine (comma_Check.calls kc A0 c0 p H A1 c1 x 0 w2 (Glob.below HG.out HB2.out) (Kd.C_below HR0.out HB2.out) HC0.out (Kd.C_below HR1.out HB2.out) HC1.out HCk.out).mono ?_); rintro e3 w3 ⟨rfl, hb⟩; have bq : w3.heap[w1.heap.size]? = some (.cells #[.slice A0 p.length c0, .int .i64 H, .slice A1 x.length c1] 32 (0, 0)) := (hb.block w1.heap.size (Array.getElem?_eq_some_iff.1 BQ.out).1).trans BQ.out; clear hc0 hc1 hc2; obtain ⟨hc0, hc1, hc2⟩ := q_cells bq; clear BQ; have BQ := Aside0.mk bq; clear bq; have HB3 := Aside0.mk (below_step HB2.out hb); clear hb))
      go_ret
      exact ⟨rfl, HB3.out⟩
  · obtain ⟨kL, hL⟩ := list_err hcE he
    obtain ⟨kS, hS⟩ := small_err hcE he 1
    obtain ⟨kR, hR⟩ := records_err hcE he
    have HLi := Aside0.mk (hL kL (Nat.le_refl _))
    have HSm := Aside0.mk (hS kS (Nat.le_refl _))
    have HRe := Aside0.mk (hR kR (Nat.le_refl _))
    have He := Aside0.mk he
    have hed : (e == 0) = false := beq_eq_false_iff_ne.mpr he
    have hed2 : (e != 0) = true := bne_iff_ne.mpr he
    clear hcE hL hS hR hp hx hh
    rcases hgd with h1d | ⟨h1d, h2d⟩
    all_goals
      go_enter Tryz.func10, Tryz.ntmps10
      go_wp2_with (first
        | (go_at_call 13; (with_reducible refine (g_known.calls true w HG.out rfl).mono ?_); rintro e1 w1 ⟨rfl, hb⟩; have HB1 := Aside0.mk hb; clear hb)
        | (go_at_call 32; (with_reducible refine (schismalaw16_check.calls kl A0 c0 p H A1 c1 x e _ (Glob.below HG.out (below_alloc HB1.out _)) (Kd.C_below HR0.out (below_alloc HB1.out _)) HC0.out (Kd.C_below HR1.out (below_alloc HB1.out _)) HC1.out HLw.out).mono ?_); rintro e2 w2 ⟨rfl, hb⟩; have bq : w2.heap[w1.heap.size]? = some (.cells #[.slice A0 p.length c0, .int .i64 H, .slice A1 x.length c1] 32 (0, 0)) := (hb.block w1.heap.size (by simp only [size_alloc]; omega)).trans (by simp only [heap_alloc]; rw [if_pos trivial]); obtain ⟨hc0, hc1, hc2⟩ := q_cells bq; have BQ := Aside0.mk bq; clear bq; have HB2 := Aside0.mk (below_step (below_alloc HB1.out _) hb); clear hb)
        | (go_at_call 33; (with_reducible refine (comma_Check.calls kc A0 c0 p H A1 c1 x e w2 (Glob.below HG.out HB2.out) (Kd.C_below HR0.out HB2.out) HC0.out (Kd.C_below HR1.out HB2.out) HC1.out HCk.out).mono ?_); rintro e3 w3 ⟨rfl, hb⟩; have bq : w3.heap[w1.heap.size]? = some (.cells #[.slice A0 p.length c0, .int .i64 H, .slice A1 x.length c1] 32 (0, 0)) := (hb.block w1.heap.size (Array.getElem?_eq_some_iff.1 BQ.out).1).trans BQ.out; clear hc0 hc1 hc2; obtain ⟨hc0, hc1, hc2⟩ := q_cells bq; clear BQ; have BQ := Aside0.mk bq; clear bq; have HB3 := Aside0.mk (below_step HB2.out hb); clear hb)
        | (go_at_call 14; (with_reducible refine (comma_List.calls kL A0 c0 p H A1 c1 x [] e w3 (Glob.below HG.out HB3.out) (Kd.C_below HR0.out HB3.out) HC0.out (Kd.C_below HR1.out HB3.out) HC1.out HLi.out).mono ?_); rintro e4 w4 ⟨v4, rfl, hN, hb⟩; obtain ⟨A14, c14, rfl⟩ := Kd.N_slice hN; clear hN; have bq : w4.heap[w1.heap.size]? = some (.cells #[.slice A0 p.length c0, .int .i64 H, .slice A1 x.length c1] 32 (0, 0)) := (hb.block w1.heap.size (Array.getElem?_eq_some_iff.1 BQ.out).1).trans BQ.out; clear hc0 hc1 hc2; obtain ⟨hc0, hc1, hc2⟩ := q_cells bq; clear BQ; have BQ := Aside0.mk bq; clear bq; have HB4 := Aside0.mk (below_step HB3.out hb); clear hb)
        | (go_at_call 17; (with_reducible refine (comma_Smallest.calls kS A0 c0 p H A1 c1 x 1 [] e w4 (Glob.below HG.out HB4.out) (Kd.C_below HR0.out HB4.out) HC0.out (Kd.C_below HR1.out HB4.out) HC1.out HSm.out).mono ?_); rintro e5 w5 ⟨v5, rfl, hN, hb⟩; obtain ⟨A15, c15, rfl⟩ := Kd.N_slice hN; clear hN; have bq : w5.heap[w1.heap.size]? = some (.cells #[.slice A0 p.length c0, .int .i64 H, .slice A1 x.length c1] 32 (0, 0)) := (hb.block w1.heap.size (Array.getElem?_eq_some_iff.1 BQ.out).1).trans BQ.out; clear hc0 hc1 hc2; obtain ⟨hc0, hc1, hc2⟩ := q_cells bq; clear BQ; have BQ := Aside0.mk bq; clear bq; have HB5 := Aside0.mk (below_step HB4.out hb); clear hb)
        | (go_at_call 25; (with_reducible refine (comma_Records.calls kR A0 c0 p H A1 c1 x [] e w5 (Glob.below HG.out HB5.out) (Kd.C_below HR0.out HB5.out) HC0.out (Kd.C_below HR1.out HB5.out) HC1.out HRe.out).mono ?_); rintro e6 w6 ⟨v6, rfl, hN, hb⟩; obtain ⟨A16, c16, rfl⟩ := Kd.N_slice hN; clear hN; have bq : w6.heap[w1.heap.size]? = some (.cells #[.slice A0 p.length c0, .int .i64 H, .slice A1 x.length c1] 32 (0, 0)) := (hb.block w1.heap.size (Array.getElem?_eq_some_iff.1 BQ.out).1).trans BQ.out; clear hc0 hc1 hc2; obtain ⟨hc0, hc1, hc2⟩ := q_cells bq; clear BQ; have BQ := Aside0.mk bq; clear bq; have HB6 := Aside0.mk (below_step HB5.out hb); clear hb)
        | (go_at_call 27; (with_reducible refine (superp_calls (er := e) kL A0 c0 p H A1 c1 x [] (fun _ => true) w6 (Glob.below HG.out HB6.out) (Kd.C_below HR0.out HB6.out) HC0.out (Kd.C_below HR1.out HB6.out) HC1.out HLi.out (Nat.zero_le _) (fun r hr => absurd hr (by simp))).mono ?_); rintro e7 w7 ⟨v7, rfl, hN, hb⟩; obtain ⟨A17, c17, rfl⟩ := Kd.N_slice hN; clear hN; have bq : w7.heap[w1.heap.size]? = some (.cells #[.slice A0 p.length c0, .int .i64 H, .slice A1 x.length c1] 32 (0, 0)) := (hb.block w1.heap.size (Array.getElem?_eq_some_iff.1 BQ.out).1).trans BQ.out; clear hc0 hc1 hc2; obtain ⟨hc0, hc1, hc2⟩ := q_cells bq; clear BQ; have BQ := Aside0.mk bq; clear bq; have HB7 := Aside0.mk (below_step HB6.out hb); clear hb)
        | (go_at_call 30; (with_reducible refine (in_err kc A0 c0 p H A1 c1 x e none 0 0 w7 (Glob.below HG.out HB7.out) (Kd.C_below HR0.out HB7.out) HC0.out (Kd.C_below HR1.out HB7.out) HC1.out HCk.out He.out).mono ?_); rintro e8 w8 ⟨rfl, hb⟩; have bq : w8.heap[w1.heap.size]? = some (.cells #[.slice A0 p.length c0, .int .i64 H, .slice A1 x.length c1] 32 (0, 0)) := (hb.block w1.heap.size (Array.getElem?_eq_some_iff.1 BQ.out).1).trans BQ.out; clear hc0 hc1 hc2; obtain ⟨hc0, hc1, hc2⟩ := q_cells bq; clear BQ; have BQ := Aside0.mk bq; clear bq; have HB8 := Aside0.mk (below_step HB7.out hb); clear hb)
        | (go_at_call 31; (with_reducible refine (least_err kc A0 c0 p H A1 c1 x e none 0 0 w8 (Glob.below HG.out HB8.out) (Kd.C_below HR0.out HB8.out) HC0.out (Kd.C_below HR1.out HB8.out) HC1.out HCk.out He.out).mono ?_); rintro e9 w9 ⟨rfl, hb⟩; have HB9 := Aside0.mk (below_step HB8.out hb); clear hb))
      go_ret
      exact ⟨rfl, HB9.out⟩
end Go.Proofs.YtobdccgpbohpiaaGreatDoor
