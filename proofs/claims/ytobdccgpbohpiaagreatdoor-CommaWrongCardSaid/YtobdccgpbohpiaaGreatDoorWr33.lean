/- Wr: a part of the proof. -/
import Derived.Test.YtobdccgpbohpiaaGreatDoorWr31
import Derived.Test.YtobdccgpbohpiaaGreatDoorWr32
set_option linter.unusedVariables false
set_option linter.unusedSimpArgs false
namespace Go.Proofs.YtobdccgpbohpiaaGreatDoor
open Go.RowKit Go.Lib F Go.Proofs.YtobdccgpbohpiaaGreatDoorW.PrintWords Go.Proofs.YtobdccgpbohpiaaGreatDoorW.PrintLast Go.Proofs.YtobdccgpbohpiaaGreatDoorW.PrintMore
set_option maxRecDepth 100000 in
set_option maxHeartbeats 8000000 in
theorem wrong_calls (A0 : Option Addr) (c0 : Nat) (p : List Int) (A1 : Option Addr) (c1 : Nat) (x : List Int) (A2 : Option Addr) (c2 : Nat) (y : List Int) (w : World) (hG : Glob w) (hr0 : Kd.C (Kd.int .i64) w A0 p.length p) (hc0 : p.length ≤ c0) (hr1 : Kd.C (Kd.int .i64) w A1 x.length x) (hc1 : x.length ≤ c1) (hr2 : Kd.C (Kd.int .i64) w A2 y.length y) (hc2 : y.length ≤ c2) :
    Calls Tryz.prog 6 #[.slice A0 p.length c0, .slice A1 x.length c1, .slice A2 y.length c2] w fun e w' => e = .returned (.bool true) ∧ Below w.heap.size w w' := by
  have HG := Aside0.mk hG
  have HR0 := Aside0.mk hr0
  have HR1 := Aside0.mk hr1
  have HR2 := Aside0.mk hr2
  have HC0 := Aside0.mk hc0
  have HC1 := Aside0.mk hc1
  have HC2 := Aside0.mk hc2
  clear hG hr0 hr1 hr2 hc0 hc1 hc2
  by_cases hp : (p.length : Int) > 8
  · have hpd : decide ((p.length : Int) > 8) = true := decide_eq_true hp
    clear hp
    go_enter Tryz.func6, Tryz.ntmps6
    go_wp2_with (first
      | (go_at_call 13; (with_reducible refine (g_known.calls true w HG.out rfl).mono ?_); rintro e w1 ⟨rfl, hb⟩; have HB1 := Aside0.mk hb; clear hb)
      | (go_at_call 13; (with_reducible refine (g_known.calls true w1 (Glob.below HG.out HB1.out) rfl).mono ?_); rintro e w2 ⟨rfl, hb⟩; have HB2 := Aside0.mk (below_step HB1.out hb); clear hb))
    go_ret
    exact ⟨rfl, HB2.out⟩
  have hpd : decide ((p.length : Int) > 8) = false := decide_eq_false hp
  by_cases hx : (x.length : Int) > 8
  · have hxd : decide ((x.length : Int) > 8) = true := decide_eq_true hx
    clear hx
    go_enter Tryz.func6, Tryz.ntmps6
    go_wp2_with (first
      | (go_at_call 13; (with_reducible refine (g_known.calls true w HG.out rfl).mono ?_); rintro e w1 ⟨rfl, hb⟩; have HB1 := Aside0.mk hb; clear hb)
      | (go_at_call 13; (with_reducible refine (g_known.calls true w1 (Glob.below HG.out HB1.out) rfl).mono ?_); rintro e w2 ⟨rfl, hb⟩; have HB2 := Aside0.mk (below_step HB1.out hb); clear hb))
    go_ret
    exact ⟨rfl, HB2.out⟩
  have hxd : decide ((x.length : Int) > 8) = false := decide_eq_false hx
  by_cases hy : (y.length : Int) > 8
  · have hyd : decide ((y.length : Int) > 8) = true := decide_eq_true hy
    clear hy
    go_enter Tryz.func6, Tryz.ntmps6
    go_wp2_with (first
      | (go_at_call 13; (with_reducible refine (g_known.calls true w HG.out rfl).mono ?_); rintro e w1 ⟨rfl, hb⟩; have HB1 := Aside0.mk hb; clear hb)
      | (go_at_call 13; (with_reducible refine (g_known.calls true w1 (Glob.below HG.out HB1.out) rfl).mono ?_); rintro e w2 ⟨rfl, hb⟩; have HB2 := Aside0.mk (below_step HB1.out hb); clear hb))
    go_ret
    exact ⟨rfl, HB2.out⟩
  have hyd : decide ((y.length : Int) > 8) = false := decide_eq_false hy
  have hl : ([x, y] : List (List Int)).length < 4611686018427387904 := by simp
  have ha : ∀ r ∈ ([x, y] : List (List Int)), r.length < 4611686018427387904 := fun r hr => by
    rcases List.mem_cons.1 hr with rfl | hr
    · omega
    · rw [List.mem_singleton.1 hr]; omega
  obtain ⟨k0, g0⟩ := checkAll_gen p [x, y] hl ha
  obtain ⟨k4, g4⟩ := comb_nil p 4611686018427387904
  obtain ⟨k5, g5⟩ := checkAll_gen p [] (by decide) (fun x hx => by simp at hx)
  obtain ⟨e0, he0⟩ : ∃ e0, e0 = allErr p [x, y] := ⟨_, rfl⟩
  obtain ⟨e5, he5⟩ : ∃ e5, e5 = allErr p [] := ⟨_, rfl⟩
  have E0 : Aside0 (monzo_CheckAll.f k0 p [x, y] = some e0) := ⟨by rw [he0]; exact g0 k0 (Nat.le_refl _)⟩
  have E4 : Aside0 (g_Combine.f k4 p [] 4611686018427387904 = some ([], e5)) := ⟨by rw [he5]; exact g4 k4 (Nat.le_refl _)⟩
  have E5 : Aside0 (monzo_CheckAll.f k5 p [] = some e5) := ⟨by rw [he5]; exact g5 k5 (Nat.le_refl _)⟩
  by_cases hz : e0 = 0
  · subst hz
    have hpz : perr p = 0 ∧ rowsErr p.length [x, y] = 0 := by
      unfold allErr at he0
      split at he0
      · rename_i h1; exact ⟨h1, he0.symm⟩
      · rename_i h1; exact absurd he0.symm h1
    have he5z : e5 = 0 := by rw [he5]; unfold allErr; rw [if_pos hpz.1]; rfl
    subst he5z
    obtain ⟨r1, e1, ⟨k1, g1⟩, h14⟩ := comb_gen hpz.1 [x, y] hpz.2 (by simp) 1 rfl
    obtain ⟨k2, g2⟩ := comb_many (p := p) (l := [x, y]) 50 (by decide) hl ha he0.symm (show ¬ cntOk 50 2 1 = true by decide)
    obtain ⟨k3, g3⟩ := comb_neg (p := p) (l := [x, y]) (-1) (by decide) hl ha he0.symm
    have E1 : Aside0 (g_Combine.f k1 p [x, y] 1 = some (r1, e1)) := ⟨g1 k1 (Nat.le_refl _)⟩
    have E2 : Aside0 (g_Combine.f k2 p [x, y] 50 = some ([], 4)) := ⟨g2 k2 (Nat.le_refl _)⟩
    have E3 : Aside0 (g_Combine.f k3 p [x, y] (-1) = some ([], 3)) := ⟨g3 k3 (Nat.le_refl _)⟩
    clear g0 g1 g2 g3 g4 g5 he0 he5 hpz hl ha hp hx hy
    rcases h14 with rfl | rfl
    · go_enter Tryz.func6, Tryz.ntmps6
      go_wp2_with (first
        | (go_at_call 13; (with_reducible refine (g_known.calls true w HG.out rfl).mono ?_); rintro e w1 ⟨rfl, hb⟩; have HB1 := Aside0.mk hb; clear hb)
        | (go_at_call 24; refine calls_of_args (args' := #[.slice A0 p.length c0, .slice (some ⟨w1.heap.size, 0, none⟩) ([x, y] : List (List Int)).length 2]) rfl ?_; (with_reducible refine (monzo_CheckAll.calls k0 _ _ p _ _ [x, y] _ _ ?s1 HC0.out ?s3 ?s4 E0.out).mono ?_); (case s1 => exact (Kd.C_below HR0.out (below_alloc HB1.out _))); (case s3 => exact C_lits [x, y] [(A1, c1), (A2, c2)] (cs := #[.slice A1 x.length c1, .slice A2 y.length c2]) (e := 30) (by simp only [heap_alloc]; rw [if_pos trivial]) rfl ⟨⟨HC1.out, Kd.C_below HR1.out (below_alloc HB1.out _)⟩, ⟨⟨HC2.out, Kd.C_below HR2.out (below_alloc HB1.out _)⟩, trivial⟩⟩ (by simp)); (case s4 => exact Nat.le_refl _); rintro e w2 ⟨rfl, hd⟩; have D2 := Aside0.mk (show Kd.C (Kd.slice 3 (Kd.int .i64)) w2 (some ⟨w1.heap.size, 0, none⟩) _ [x, y] from Kd.C_below (C_lits [x, y] [(A1, c1), (A2, c2)] (cs := #[.slice A1 x.length c1, .slice A2 y.length c2]) (e := 30) (by simp only [heap_alloc]; rw [if_pos trivial]) rfl ⟨⟨HC1.out, Kd.C_below HR1.out (below_alloc HB1.out _)⟩, ⟨⟨HC2.out, Kd.C_below HR2.out (below_alloc HB1.out _)⟩, trivial⟩⟩ (by simp)) hd.below); have HB2 := Aside0.mk (show Below w.heap.size w w2 from below_step (below_alloc HB1.out _) hd.below); clear hd)
        | (go_at_call 21; refine calls_of_args (args' := #[.slice A0 p.length c0, .slice (some ⟨w1.heap.size, 0, none⟩) ([x, y] : List (List Int)).length 2, .int .i64 1]) rfl ?_; (with_reducible refine (g_Combine.calls k1 _ _ p _ _ [x, y] 1 _ _ w2 (Glob.below HG.out HB2.out) (Kd.C_below HR0.out HB2.out) HC0.out D2.out ?s4 E1.out).mono ?_); (case s4 => exact Nat.le_refl _); rintro e w3 ⟨v3, rfl, hN, hb⟩; have HN3 := Aside0.mk hN; have D3 := Aside0.mk (Kd.C_below D2.out hb); have HB3 := Aside0.mk (below_step HB2.out hb); clear hN hb; obtain ⟨B3, d3, rfl⟩ := Kd.N_slice HN3.out)
        | (go_at_call 21; refine calls_of_args (args' := #[.slice A0 p.length c0, .slice (some ⟨w1.heap.size, 0, none⟩) ([x, y] : List (List Int)).length 2, .int .i64 50]) rfl ?_; (with_reducible refine (g_Combine.calls k2 _ _ p _ _ [x, y] 50 _ _ w3 (Glob.below HG.out HB3.out) (Kd.C_below HR0.out HB3.out) HC0.out D3.out ?s4 E2.out).mono ?_); (case s4 => exact Nat.le_refl _); rintro e w4 ⟨v4, rfl, hN, hb⟩; have HN4 := Aside0.mk hN; have D4 := Aside0.mk (Kd.C_below D3.out hb); have HB4 := Aside0.mk (below_step HB3.out hb); clear hN hb; obtain ⟨B4, d4, rfl⟩ := Kd.N_slice HN4.out)
        | (go_at_call 21; refine calls_of_args (args' := #[.slice A0 p.length c0, .slice (some ⟨w1.heap.size, 0, none⟩) ([x, y] : List (List Int)).length 2, .int .i64 (-1)]) rfl ?_; (with_reducible refine (g_Combine.calls k3 _ _ p _ _ [x, y] (-1) _ _ w4 (Glob.below HG.out HB4.out) (Kd.C_below HR0.out HB4.out) HC0.out D4.out ?s4 E3.out).mono ?_); (case s4 => exact Nat.le_refl _); rintro e w5 ⟨v5, rfl, hN, hb⟩; have HN5 := Aside0.mk hN; have D5 := Aside0.mk (Kd.C_below D4.out hb); have HB5 := Aside0.mk (below_step HB4.out hb); clear hN hb; obtain ⟨B5, d5, rfl⟩ := Kd.N_slice HN5.out)
        | (go_at_call 21; refine calls_of_args (args' := #[.slice A0 p.length c0, .slice none ([] : List (List Int)).length 0, .int .i64 4611686018427387904]) rfl ?_; (with_reducible refine (g_Combine.calls k4 _ _ p _ _ [] 4611686018427387904 _ _ w5 (Glob.below HG.out HB5.out) (Kd.C_below HR0.out HB5.out) HC0.out (Kd.C_nil _ _) ?s4 E4.out).mono ?_); (case s4 => exact Nat.le_refl _); rintro e w6 ⟨v6, rfl, hN, hb⟩; have HN6 := Aside0.mk hN; have HB6 := Aside0.mk (below_step HB5.out hb); clear hN hb; obtain ⟨B6, d6, rfl⟩ := Kd.N_slice HN6.out))
      go_ret
      exact ⟨rfl, HB6.out⟩
    · go_enter Tryz.func6, Tryz.ntmps6
      go_wp2_with (first
        | (go_at_call 13; (with_reducible refine (g_known.calls true w HG.out rfl).mono ?_); rintro e w1 ⟨rfl, hb⟩; have HB1 := Aside0.mk hb; clear hb)
        | (go_at_call 24; refine calls_of_args (args' := #[.slice A0 p.length c0, .slice (some ⟨w1.heap.size, 0, none⟩) ([x, y] : List (List Int)).length 2]) rfl ?_; (with_reducible refine (monzo_CheckAll.calls k0 _ _ p _ _ [x, y] _ _ ?s1 HC0.out ?s3 ?s4 E0.out).mono ?_); (case s1 => exact (Kd.C_below HR0.out (below_alloc HB1.out _))); (case s3 => exact C_lits [x, y] [(A1, c1), (A2, c2)] (cs := #[.slice A1 x.length c1, .slice A2 y.length c2]) (e := 30) (by simp only [heap_alloc]; rw [if_pos trivial]) rfl ⟨⟨HC1.out, Kd.C_below HR1.out (below_alloc HB1.out _)⟩, ⟨⟨HC2.out, Kd.C_below HR2.out (below_alloc HB1.out _)⟩, trivial⟩⟩ (by simp)); (case s4 => exact Nat.le_refl _); rintro e w2 ⟨rfl, hd⟩; have D2 := Aside0.mk (show Kd.C (Kd.slice 3 (Kd.int .i64)) w2 (some ⟨w1.heap.size, 0, none⟩) _ [x, y] from Kd.C_below (C_lits [x, y] [(A1, c1), (A2, c2)] (cs := #[.slice A1 x.length c1, .slice A2 y.length c2]) (e := 30) (by simp only [heap_alloc]; rw [if_pos trivial]) rfl ⟨⟨HC1.out, Kd.C_below HR1.out (below_alloc HB1.out _)⟩, ⟨⟨HC2.out, Kd.C_below HR2.out (below_alloc HB1.out _)⟩, trivial⟩⟩ (by simp)) hd.below); have HB2 := Aside0.mk (show Below w.heap.size w w2 from below_step (below_alloc HB1.out _) hd.below); clear hd)
        | (go_at_call 21; refine calls_of_args (args' := #[.slice A0 p.length c0, .slice (some ⟨w1.heap.size, 0, none⟩) ([x, y] : List (List Int)).length 2, .int .i64 1]) rfl ?_; (with_reducible refine (g_Combine.calls k1 _ _ p _ _ [x, y] 1 _ _ w2 (Glob.below HG.out HB2.out) (Kd.C_below HR0.out HB2.out) HC0.out D2.out ?s4 E1.out).mono ?_); (case s4 => exact Nat.le_refl _); rintro e w3 ⟨v3, rfl, hN, hb⟩; have HN3 := Aside0.mk hN; have D3 := Aside0.mk (Kd.C_below D2.out hb); have HB3 := Aside0.mk (below_step HB2.out hb); clear hN hb; obtain ⟨B3, d3, rfl⟩ := Kd.N_slice HN3.out)
        | (go_at_call 21; refine calls_of_args (args' := #[.slice A0 p.length c0, .slice (some ⟨w1.heap.size, 0, none⟩) ([x, y] : List (List Int)).length 2, .int .i64 50]) rfl ?_; (with_reducible refine (g_Combine.calls k2 _ _ p _ _ [x, y] 50 _ _ w3 (Glob.below HG.out HB3.out) (Kd.C_below HR0.out HB3.out) HC0.out D3.out ?s4 E2.out).mono ?_); (case s4 => exact Nat.le_refl _); rintro e w4 ⟨v4, rfl, hN, hb⟩; have HN4 := Aside0.mk hN; have D4 := Aside0.mk (Kd.C_below D3.out hb); have HB4 := Aside0.mk (below_step HB3.out hb); clear hN hb; obtain ⟨B4, d4, rfl⟩ := Kd.N_slice HN4.out)
        | (go_at_call 21; refine calls_of_args (args' := #[.slice A0 p.length c0, .slice (some ⟨w1.heap.size, 0, none⟩) ([x, y] : List (List Int)).length 2, .int .i64 (-1)]) rfl ?_; (with_reducible refine (g_Combine.calls k3 _ _ p _ _ [x, y] (-1) _ _ w4 (Glob.below HG.out HB4.out) (Kd.C_below HR0.out HB4.out) HC0.out D4.out ?s4 E3.out).mono ?_); (case s4 => exact Nat.le_refl _); rintro e w5 ⟨v5, rfl, hN, hb⟩; have HN5 := Aside0.mk hN; have D5 := Aside0.mk (Kd.C_below D4.out hb); have HB5 := Aside0.mk (below_step HB4.out hb); clear hN hb; obtain ⟨B5, d5, rfl⟩ := Kd.N_slice HN5.out)
        | (go_at_call 21; refine calls_of_args (args' := #[.slice A0 p.length c0, .slice none ([] : List (List Int)).length 0, .int .i64 4611686018427387904]) rfl ?_; (with_reducible refine (g_Combine.calls k4 _ _ p _ _ [] 4611686018427387904 _ _ w5 (Glob.below HG.out HB5.out) (Kd.C_below HR0.out HB5.out) HC0.out (Kd.C_nil _ _) ?s4 E4.out).mono ?_); (case s4 => exact Nat.le_refl _); rintro e w6 ⟨v6, rfl, hN, hb⟩; have HN6 := Aside0.mk hN; have HB6 := Aside0.mk (below_step HB5.out hb); clear hN hb; obtain ⟨B6, d6, rfl⟩ := Kd.N_slice HN6.out))
      go_ret
      exact ⟨rfl, HB6.out⟩
  · have hzb : (e0 == 0) = false := beq_eq_false_iff_ne.mpr hz
    have hzc : (e0 != 0) = true := bne_iff_ne.mpr hz
    have hne : allErr p [x, y] ≠ 0 := by rw [← he0]; exact hz
    obtain ⟨k1, g1⟩ := comb_err (p := p) (l := [x, y]) 1 hl ha hne
    obtain ⟨k2, g2⟩ := comb_err (p := p) (l := [x, y]) 50 hl ha hne
    obtain ⟨k3, g3⟩ := comb_err (p := p) (l := [x, y]) (-1) hl ha hne
    rw [← he0] at g1 g2 g3
    have E1 : Aside0 (g_Combine.f k1 p [x, y] 1 = some ([], e0)) := ⟨g1 k1 (Nat.le_refl _)⟩
    have E2 : Aside0 (g_Combine.f k2 p [x, y] 50 = some ([], e0)) := ⟨g2 k2 (Nat.le_refl _)⟩
    have E3 : Aside0 (g_Combine.f k3 p [x, y] (-1) = some ([], e0)) := ⟨g3 k3 (Nat.le_refl _)⟩
    clear g0 g1 g2 g3 g4 g5 he0 he5 hl ha hp hx hy hne hz
    go_enter Tryz.func6, Tryz.ntmps6
    go_wp2_with (first
      | (go_at_call 13; (with_reducible refine (g_known.calls true w HG.out rfl).mono ?_); rintro e w1 ⟨rfl, hb⟩; have HB1 := Aside0.mk hb; clear hb)
      | (go_at_call 24; refine calls_of_args (args' := #[.slice A0 p.length c0, .slice (some ⟨w1.heap.size, 0, none⟩) ([x, y] : List (List Int)).length 2]) rfl ?_; (with_reducible refine (monzo_CheckAll.calls k0 _ _ p _ _ [x, y] _ _ ?s1 HC0.out ?s3 ?s4 E0.out).mono ?_); (case s1 => exact (Kd.C_below HR0.out (below_alloc HB1.out _))); (case s3 => exact C_lits [x, y] [(A1, c1), (A2, c2)] (cs := #[.slice A1 x.length c1, .slice A2 y.length c2]) (e := 30) (by simp only [heap_alloc]; rw [if_pos trivial]) rfl ⟨⟨HC1.out, Kd.C_below HR1.out (below_alloc HB1.out _)⟩, ⟨⟨HC2.out, Kd.C_below HR2.out (below_alloc HB1.out _)⟩, trivial⟩⟩ (by simp)); (case s4 => exact Nat.le_refl _); rintro e w2 ⟨rfl, hd⟩; have D2 := Aside0.mk (show Kd.C (Kd.slice 3 (Kd.int .i64)) w2 (some ⟨w1.heap.size, 0, none⟩) _ [x, y] from Kd.C_below (C_lits [x, y] [(A1, c1), (A2, c2)] (cs := #[.slice A1 x.length c1, .slice A2 y.length c2]) (e := 30) (by simp only [heap_alloc]; rw [if_pos trivial]) rfl ⟨⟨HC1.out, Kd.C_below HR1.out (below_alloc HB1.out _)⟩, ⟨⟨HC2.out, Kd.C_below HR2.out (below_alloc HB1.out _)⟩, trivial⟩⟩ (by simp)) hd.below); have HB2 := Aside0.mk (show Below w.heap.size w w2 from below_step (below_alloc HB1.out _) hd.below); clear hd)
      | (go_at_call 21; refine calls_of_args (args' := #[.slice A0 p.length c0, .slice (some ⟨w1.heap.size, 0, none⟩) ([x, y] : List (List Int)).length 2, .int .i64 1]) rfl ?_; (with_reducible refine (g_Combine.calls k1 _ _ p _ _ [x, y] 1 _ _ w2 (Glob.below HG.out HB2.out) (Kd.C_below HR0.out HB2.out) HC0.out D2.out ?s4 E1.out).mono ?_); (case s4 => exact Nat.le_refl _); rintro e w3 ⟨v3, rfl, hN, hb⟩; have HN3 := Aside0.mk hN; have D3 := Aside0.mk (Kd.C_below D2.out hb); have HB3 := Aside0.mk (below_step HB2.out hb); clear hN hb; obtain ⟨B3, d3, rfl⟩ := Kd.N_slice HN3.out)
      | (go_at_call 21; refine calls_of_args (args' := #[.slice A0 p.length c0, .slice (some ⟨w1.heap.size, 0, none⟩) ([x, y] : List (List Int)).length 2, .int .i64 50]) rfl ?_; (with_reducible refine (g_Combine.calls k2 _ _ p _ _ [x, y] 50 _ _ w3 (Glob.below HG.out HB3.out) (Kd.C_below HR0.out HB3.out) HC0.out D3.out ?s4 E2.out).mono ?_); (case s4 => exact Nat.le_refl _); rintro e w4 ⟨v4, rfl, hN, hb⟩; have HN4 := Aside0.mk hN; have D4 := Aside0.mk (Kd.C_below D3.out hb); have HB4 := Aside0.mk (below_step HB3.out hb); clear hN hb; obtain ⟨B4, d4, rfl⟩ := Kd.N_slice HN4.out)
      | (go_at_call 21; refine calls_of_args (args' := #[.slice A0 p.length c0, .slice (some ⟨w1.heap.size, 0, none⟩) ([x, y] : List (List Int)).length 2, .int .i64 (-1)]) rfl ?_; (with_reducible refine (g_Combine.calls k3 _ _ p _ _ [x, y] (-1) _ _ w4 (Glob.below HG.out HB4.out) (Kd.C_below HR0.out HB4.out) HC0.out D4.out ?s4 E3.out).mono ?_); (case s4 => exact Nat.le_refl _); rintro e w5 ⟨v5, rfl, hN, hb⟩; have HN5 := Aside0.mk hN; have D5 := Aside0.mk (Kd.C_below D4.out hb); have HB5 := Aside0.mk (below_step HB4.out hb); clear hN hb; obtain ⟨B5, d5, rfl⟩ := Kd.N_slice HN5.out)
      | (go_at_call 21; refine calls_of_args (args' := #[.slice A0 p.length c0, .slice none ([] : List (List Int)).length 0, .int .i64 4611686018427387904]) rfl ?_; (with_reducible refine (g_Combine.calls k4 _ _ p _ _ [] 4611686018427387904 _ _ w5 (Glob.below HG.out HB5.out) (Kd.C_below HR0.out HB5.out) HC0.out (Kd.C_nil _ _) ?s4 E4.out).mono ?_); (case s4 => exact Nat.le_refl _); rintro e w6 ⟨v6, rfl, hN, hb⟩; have HN6 := Aside0.mk hN; have HB6 := Aside0.mk (below_step HB5.out hb); clear hN hb; obtain ⟨B6, d6, rfl⟩ := Kd.N_slice HN6.out)
      | (go_at_call 24; refine calls_of_args (args' := #[.slice A0 p.length c0, .slice none ([] : List (List Int)).length 0]) rfl ?_; (with_reducible refine (monzo_CheckAll.calls k5 _ _ p _ _ [] _ _ (Kd.C_below HR0.out HB6.out) HC0.out (Kd.C_nil _ _) ?s4 E5.out).mono ?_); (case s4 => exact Nat.le_refl _); rintro e w7 ⟨rfl, hd⟩; have HB7 := Aside0.mk (show Below w.heap.size w w7 from below_step HB6.out hd.below); clear hd))
    go_ret
    exact ⟨rfl, HB7.out⟩
end Go.Proofs.YtobdccgpbohpiaaGreatDoor
