/- Re: a part of the proof. -/
import Derived.Test.YtobdccgpbohpiaaGreatDoorRe34
import Derived.Test.YtobdccgpbohpiaaGreatDoorRe36
import Derived.Test.YtobdccgpbohpiaaGreatDoorRe38
import Derived.Test.YtobdccgpbohpiaaGreatDoorRe39
set_option linter.unusedVariables false
set_option linter.unusedSimpArgs false
namespace Go.Proofs.YtobdccgpbohpiaaGreatDoor
open Go.RowKit Go.Lib Go.Sort F Go.Proofs.YtobdccgpbohpiaaGreatDoorW.PrintWords Go.Proofs.YtobdccgpbohpiaaGreatDoorW.PrintLast Go.Proofs.YtobdccgpbohpiaaGreatDoorW.PrintMore
set_option maxRecDepth 100000 in
set_option maxHeartbeats 8000000 in
theorem records_known (a0 a1 a2 a3 a4 a5 : Int) (kM : Nat) (p : List Int) (H : Int) (x : List Int) (w : World) (hG : Glob w) (hM : schismalaw16_Make.f kM a0 a1 a2 a3 a4 a5 = some (p, H, x, false)) :
    Calls Tryz.prog 8 #[.agg #[.int .u8 a0, .int .i8 a1, .int .i8 a2, .int .i8 a3, .int .i8 a4, .int .u8 a5]] w fun e w' => e = .returned (.bool true) ∧ Below w.heap.size w w' := by
  have HG := Aside0.mk hG
  have HM := Aside0.mk hM
  clear hG hM
  go_enter Tryz.func8, Tryz.ntmps8
  go_wp2_with (first
    | (go_at_call 12; (with_reducible refine (schismalaw16_Make.calls kM a0 a1 a2 a3 a4 a5 p H x _ _ ?sG HM.out).mono ?_); (case sG => exact Glob.below HG.out (below_alloc (Below.refl _ _) _)); rintro e w1 ⟨v0, v2, rfl, hV, hR, hb⟩; have HV := Aside0.mk hV; have HRx := Aside0.mk hR; have HB1 := Aside0.mk (show Below w.heap.size w w1 from below_step (below_alloc (Below.refl _ _) _) hb); clear hV hR hb; obtain ⟨A0, c0, rfl⟩ := Kd.V_slice HV.out; obtain ⟨A2, c2, rfl⟩ := Kd.R_slice HRx.out; have HCp := Aside0.mk (Kd.V_reads' HV.out); have HCx := Aside0.mk (Kd.R_reads' HRx.out))
    | (go_at_call 13; (with_reducible refine (g_known.calls true w2 (Glob.below HG.out HB2.out) rfl).mono ?_); rintro e w3 ⟨rfl, hb⟩; have HB3 := Aside0.mk (below_step HB2.out hb); clear hb)
    | (go_at_call 13; (with_reducible refine (g_known.calls true _ ?sG rfl).mono ?_); (case sG => exact Glob.below HG.out (below_alloc HB1.out _)); rintro e w2 ⟨rfl, hb⟩; have bq : w2.heap[w1.heap.size]? = some (.cells #[.slice A0 p.length c0, .int .i64 H, .slice A2 x.length c2] 32 (0, 0)) := (hb.block w1.heap.size (by simp only [size_alloc]; omega)).trans (by simp only [heap_alloc, size_alloc]; repeat (first | (rw [if_pos trivial]) | (rw [if_pos (by omega)]) | (rw [if_neg (by omega)]))); obtain ⟨hc0, hc1, hc2⟩ := q_cells bq; have BQ := Aside0.mk bq; have HQ2 := Aside0.mk (Array.getElem?_eq_some_iff.1 bq).1; clear bq; have HB2 := Aside0.mk (show Below w.heap.size w w2 from below_step (below_alloc HB1.out _) hb); have HC2 := Aside0.mk (show Below w1.heap.size w1 w2 from below_step (below_alloc (Below.refl _ _) _) hb); clear hb))
  go_ret
  exact ⟨rfl, HB3.out⟩
def lstI (L : List (List Int × S47)) (i : Nat) : Int := match lstG lessP zRP L i with
  | none => -1
  | some j => (j : Int)
def supG (L : List (List Int × S47)) (i : Nat) : List (List Int) := ((L.take i).filter fun q => decide (q.2.f0 = q.2.f1 + 1)).map Prod.fst
theorem supG_succ (L : List (List Int × S47)) (i : Nat) (hi : i < L.length) : supG L (i + 1) = supG L i ++ if (L.getD i zRP).2.f0 = (L.getD i zRP).2.f1 + 1 then [(L.getD i zRP).1] else [] := by
  unfold supG
  have e : L.getD i zRP = L[i] := by rw [List.getD_eq_getElem?_getD, List.getElem?_eq_getElem hi]; rfl
  rw [List.take_succ_eq_append_getElem hi, List.filter_append, List.map_append, e]
  congr 1
  by_cases h : L[i].2.f0 = L[i].2.f1 + 1
  · rw [if_pos h, List.filter_cons_of_pos (by simpa using h)]; rfl
  · rw [if_neg h, List.filter_cons_of_neg (by simpa using h)]; rfl
theorem supG_length (L : List (List Int × S47)) (i : Nat) : (supG L i).length ≤ i := by
  unfold supG
  rw [List.length_map]
  exact Nat.le_trans (List.length_filter_le _ _) (List.length_take_le _ _)
section
variable {W4 W5 W : World} {ga gp : Nat} {va : Nat → Value} {L : List (List Int × S47)}
theorem range_get {n i : Nat} (hi : i < n) : (List.range n).getD i n = i := by rw [List.getD_eq_getElem?_getD, List.getElem?_range hi]; rfl
theorem rows_at (h : Srt W4 W5 ga gp va L W5 (List.range L.length)) (hb : Below W5.heap.size W5 W) {i : Nat} (hi : i < L.length) : W.cell? ⟨ga, i, none⟩ = some (va i) := by
  have h1 := (h.cellA hi).1
  rw [range_get hi] at h1
  exact (hb.cell (World.block_lt_of_cell? W5 _ h1)).trans h1
theorem parts_at (h : Srt W4 W5 ga gp va L W5 (List.range L.length)) (hb : Below W5.heap.size W5 W) {i : Nat} (hi : i < L.length) : W.cell? ⟨gp, i * 2, none⟩ = some (.int .i64 (L.getD i zRP).2.f0) ∧ W.cell? ⟨gp, i * 2 + 1, none⟩ = some (.int .i64 (L.getD i zRP).2.f1) := by
  obtain ⟨h1, h2, _, _⟩ := h.cellP hi
  rw [range_get hi] at h1 h2
  exact ⟨(hb.cell (World.block_lt_of_cell? W5 _ h1)).trans h1, (hb.cell (World.block_lt_of_cell? W5 _ h2)).trans h2⟩
theorem FK_old {x : List Int} {c : List Value} {S : Nat → Prop} (h : Kd.FK (Kd.slice 3 (Kd.int .i64)) W5 S x c) (hb : Below W5.heap.size W5 W) : Kd.FK (Kd.slice 3 (Kd.int .i64)) W (fun k => k < W5.heap.size) x c :=
  Kd.FK_mono (Kd.FK_step (Kd.FK_bound h) (fun k _ hlt => hb.block k hlt)) (fun _ hk => hk.2)
end
set_option maxRecDepth 100000 in
set_option maxHeartbeats 16000000 in
theorem records_main (a0 a1 a2 a3 a4 a5 : Int) (kM : Nat) (p : List Int) (H : Int) (x : List Int) (w : World) (hG : Glob w) (hM : schismalaw16_Make.f kM a0 a1 a2 a3 a4 a5 = some (p, H, x, true)) (kR : Nat) (R : List (List Int)) (hR : comma_Records.f kR p H x = some (R, 0)) (kL : Nat) (l : List (List Int)) (hL : comma_List.f kL p H x = some (l, 0)) (hln : l.length ≤ 100000) (sp : List Int → Bool) (hsp : ∀ r ∈ l, Super p r (sp r))
    (kW : Nat) (L : List (List Int × S47)) (hW : schismalaw16_list.f kW p H x = some (L.map Prod.fst, L.map Prod.snd)) (hLn : L.length ≤ 100000) (hLb : ∀ q ∈ L, (1 ≤ q.2.f0 ∧ q.2.f0 ≤ 130) ∧ 1 ≤ q.2.f1 ∧ q.2.f1 ≤ 130) (k1 : Nat) (hE1 : schismalaw16_same.f k1 R ((recG lessP zRP L L.length).map Prod.fst) = some true) (k2 : Nat) (hE2 : schismalaw16_same.f k2 (l.filter sp) (supG L L.length) = some true) :
    Calls Tryz.prog 8 #[.agg #[.int .u8 a0, .int .i8 a1, .int .i8 a2, .int .i8 a3, .int .i8 a4, .int .u8 a5]] w fun e w' => e = .returned (.bool true) ∧ Below w.heap.size w w' := by
  have HG := Aside0.mk hG
  have HM := Aside0.mk hM
  have HR := Aside0.mk hR
  have HL := Aside0.mk hL
  have Hln := Aside0.mk hln
  have HSp := Aside0.mk hsp
  have HW := Aside0.mk hW
  have HLn := Aside0.mk hLn
  have HLb := Aside0.mk hLb
  have HE1 := Aside0.mk hE1
  have HE2 := Aside0.mk hE2
  clear hG hM hR hL hln hsp hW hLn hLb hE1 hE2
  go_enter Tryz.func8, Tryz.ntmps8
  go_wp2_with (first
    | (go_at_call 12; (with_reducible refine (schismalaw16_Make.calls kM a0 a1 a2 a3 a4 a5 p H x _ _ ?sG HM.out).mono ?_); (case sG => exact Glob.below HG.out (below_alloc (Below.refl _ _) _)); rintro e w1 ⟨v0, v2, rfl, hV, hR, hb⟩; have HV := Aside0.mk hV; have HRx := Aside0.mk hR; have HB1 := Aside0.mk (show Below w.heap.size w w1 from below_step (below_alloc (Below.refl _ _) _) hb); clear hV hR hb; obtain ⟨A0, c0, rfl⟩ := Kd.V_slice HV.out; obtain ⟨A2, c2, rfl⟩ := Kd.R_slice HRx.out; have HCp := Aside0.mk (Kd.V_reads' HV.out); have HCx := Aside0.mk (Kd.R_reads' HRx.out))
    | (go_at_call 13; (with_reducible refine (g_known.calls true _ ?sG rfl).mono ?_); (case sG => exact Glob.below HG.out (below_alloc HB1.out _)); rintro e w2 ⟨rfl, hb⟩; have bq : w2.heap[w1.heap.size]? = some (.cells #[.slice A0 p.length c0, .int .i64 H, .slice A2 x.length c2] 32 (0, 0)) := (hb.block w1.heap.size (by simp only [size_alloc]; omega)).trans (by simp only [heap_alloc, size_alloc]; repeat (first | (rw [if_pos trivial]) | (rw [if_pos (by omega)]) | (rw [if_neg (by omega)]))); obtain ⟨hc0, hc1, hc2⟩ := q_cells bq; have BQ := Aside0.mk bq; have HQ2 := Aside0.mk (Array.getElem?_eq_some_iff.1 bq).1; clear bq; have HB2 := Aside0.mk (show Below w.heap.size w w2 from below_step (below_alloc HB1.out _) hb); have HC2 := Aside0.mk (show Below w1.heap.size w1 w2 from below_step (below_alloc (Below.refl _ _) _) hb); clear hb)
    | (go_at_call 25; (with_reducible refine (comma_Records.calls kR A0 c0 p H A2 c2 x R 0 w2 (Glob.below HG.out HB2.out) (Kd.C_below HCp.out.2.2 HC2.out) HCp.out.2.1 (Kd.C_below HCx.out.2.2 HC2.out) HCx.out.2.1 HR.out).mono ?_); rintro e w3 ⟨v3, rfl, hN, hb⟩; have bq : w3.heap[w1.heap.size]? = some (.cells #[.slice A0 p.length c0, .int .i64 H, .slice A2 x.length c2] 32 (0, 0)) := (hb.block w1.heap.size (Array.getElem?_eq_some_iff.1 BQ.out).1).trans BQ.out; clear hc0 hc1 hc2; obtain ⟨hc0, hc1, hc2⟩ := q_cells bq; clear BQ; have BQ := Aside0.mk bq; have HQ3 := Aside0.mk (Array.getElem?_eq_some_iff.1 bq).1; clear bq; have HB3 := Aside0.mk (below_step HB2.out hb); have HC3 := Aside0.mk (show Below w1.heap.size w1 w3 from below_step HC2.out hb); have HN3 := Aside0.mk hN; clear hN hb; obtain ⟨A3, c3, rfl⟩ := Kd.N_slice HN3.out; have HC3N := Aside0.mk (Kd.N_reads' HN3.out))
    | (go_at_call 27; (with_reducible refine (superp_calls kL A0 c0 p H A2 c2 x l sp w3 (Glob.below HG.out HB3.out) (Kd.C_below HCp.out.2.2 HC3.out) HCp.out.2.1 (Kd.C_below HCx.out.2.2 HC3.out) HCx.out.2.1 HL.out Hln.out HSp.out).mono ?_); rintro e w4 ⟨v4, rfl, hN, hb⟩; have bq : w4.heap[w1.heap.size]? = some (.cells #[.slice A0 p.length c0, .int .i64 H, .slice A2 x.length c2] 32 (0, 0)) := (hb.block w1.heap.size (Array.getElem?_eq_some_iff.1 BQ.out).1).trans BQ.out; clear hc0 hc1 hc2; obtain ⟨hc0, hc1, hc2⟩ := q_cells bq; clear BQ; have BQ := Aside0.mk bq; have HQ4 := Aside0.mk (Array.getElem?_eq_some_iff.1 bq).1; clear bq; have HB4 := Aside0.mk (below_step HB3.out hb); have HC4 := Aside0.mk (show Below w1.heap.size w1 w4 from below_step HC3.out hb); have HN4 := Aside0.mk hN; have HC34 := Aside0.mk hb; clear hN hb; obtain ⟨A4, c4, rfl⟩ := Kd.N_slice HN4.out; have HC4N := Aside0.mk (Kd.N_reads' HN4.out))
    | (go_at_call 15; (with_reducible refine (schismalaw16_list.calls kW A0 c0 p H A2 c2 x _ _ w4 (Glob.below HG.out HB4.out) (Kd.C_below HCp.out.2.2 HC4.out) HCp.out.2.1 (Kd.C_below HCx.out.2.2 HC4.out) HCx.out.2.1 HW.out).mono ?_); rintro e w5 ⟨v5, v6, rfl, hS, hR, hb⟩; obtain ⟨A5, c5, hv5⟩ := Kd.S_slice hS; obtain ⟨A6, c6, hv6⟩ := Kd.R_slice hR; rw [List.length_map] at hv5 hv6; subst hv5 hv6; have HWs := Aside0.mk (srt_start hS hR hb); have HB5 := Aside0.mk (below_step HB4.out hb); have HC45 := Aside0.mk hb; clear hS hR hb hc0 hc1 hc2))
  obtain ⟨S, hS⟩ : ∃ S, S = l.filter sp := ⟨_, rfl⟩
  rw [← hS] at HC4N HE2 ⊢
  clear hS HN4
  obtain ⟨ga, gp, va, hA, hga, hgp, hne, hc5, hc6, hFK, hsrt⟩ := HWs.out
  have HA := Aside0.mk hA
  have HFK := Aside0.mk hFK
  have HSrt := Aside0.mk hsrt
  clear hA hga hgp hne hc5 hc6 hFK hsrt HWs
  go_loopg [11, 12, 13, 14] L.length (fun gg s11 s12 s13 s14 wr => ∃ i : Nat, s14 = .int .i64 i ∧ s13 = .int .i64 (lstI L i) ∧ i ≤ L.length ∧ L.length - i ≤ gg ∧ Aside0 (Kd.N (Kd.slice 3 (Kd.int .i64)) 30 wr w5.heap.size (fun k_ => True ∧ some k_ ≠ s12.ownBlock) s11 ((recG lessP zRP L i).map Prod.fst)) ∧ Aside0 (Kd.N (Kd.slice 3 (Kd.int .i64)) 30 wr w5.heap.size (fun k_ => True ∧ some k_ ≠ s11.ownBlock) s12 (supG L i)) ∧ Aside0 (Below w5.heap.size w5 wr))
  case atStart => exact ⟨0, rfl, rfl, by omega, by omega, ⟨Kd.N_nil _ _ _ _ _⟩, ⟨Kd.N_nil _ _ _ _ _⟩, ⟨Below.refl _ _⟩⟩
  case round =>
    obtain ⟨i, rfl, rfl, hi, hgg, HN1, HN2, HB⟩ := hrel
    obtain ⟨A11, c11, rfl⟩ := Kd.N_slice HN1.out
    obtain ⟨A12, c12, rfl⟩ := Kd.N_slice HN2.out
    have hsrt := HSrt.out
    have HRl := Aside0.mk (show ((recG lessP zRP L i).map Prod.fst).length + (supG L i).length ≤ 200000 from by
      have h1 := recG_length lessP zRP L i
      have h2 := supG_length L i
      have h3 := HLn.out
      rw [List.length_map]; omega)
    by_cases hi2 : i < L.length
    · have hltd : decide ((i : Int) < (L.length : Int)) = true := decide_eq_true (by omega)
      obtain ⟨rfl, rfl⟩ := HA.out (by omega)
      have qi : (i : Int) < (L.length : Int) := by omega
      have hrs : (recG lessP zRP L (i + 1)).map Prod.fst = (recG lessP zRP L i).map Prod.fst ++ if better lessP (recG lessP zRP L i) (L.getD i zRP) = true then [(L.getD i zRP).1] else [] := by
        rw [recG]
        split
        · rw [List.map_append]; rfl
        · rw [List.append_nil]
      have hbt := recG_better lessP zRP L i
      have hls : lstG lessP zRP L (i + 1) = match lstG lessP zRP L i with
        | none => some i
        | some j => if lessP (L.getD i zRP) (L.getD j zRP) = true then some i else some j := rfl
      have hlj := lstG_lt lessP zRP L i
      obtain ⟨R1, hR1⟩ : ∃ R1, R1 = (recG lessP zRP L i).map Prod.fst := ⟨_, rfl⟩
      obtain ⟨R2, hR2⟩ : ∃ R2, R2 = supG L i := ⟨_, rfl⟩
      rw [← hR1] at hrs
      rw [← hR1, ← hR2] at HRl
      rw [← hR1] at HN1 HN2 ⊢
      rw [← hR2] at HN1 HN2 ⊢
      have HR2 := Aside0.mk hR2
      clear hR1
      obtain ⟨xi, hxi⟩ : ∃ xi, xi = (L.getD i zRP).1 := ⟨_, rfl⟩
      rw [← hxi] at hrs
      have HXi := Aside0.mk hxi
      have hfk := HFK.out i hi2
      rw [← hxi] at hfk
      obtain ⟨Ai, ci, evi, _, _⟩ := Kd.FK_slice_open hfk
      have hvi := (List.cons.inj evi).1
      rw [hvi] at hfk
      have HVi := Aside0.mk hvi
      have HFKi := Aside0.mk hfk
      obtain ⟨u0, hu0⟩ : ∃ u, u = (L.getD i zRP).2.f0 := ⟨_, rfl⟩
      obtain ⟨u1, hu1⟩ : ∃ u, u = (L.getD i zRP).2.f1 := ⟨_, rfl⟩
      obtain ⟨u2, hu2⟩ : ∃ u, u = u1 + 1 := ⟨_, rfl⟩
      have hmem : ∀ t, t < L.length → L.getD t zRP ∈ L := fun t ht => by rw [List.getD_eq_getElem?_getD, List.getElem?_eq_getElem ht]; exact List.getElem_mem ht
      have hbu := HLb.out _ (hmem i hi2)
      rw [← hu0, ← hu1] at hbu
      have hw1 : IntKind.i64.wrap (u1 + 1) = u2 := by rw [IntKind.wrap_i64]; omega
      have hw2 : wrap64 (u1 + 1) = u2 := by rw [wrap64_id (by omega)]; exact hu2.symm
      have HU := Aside0.mk (And.intro hu0 (And.intro hu1 hu2))
      clear hxi hfk evi hvi hu0 hu1 hu2 hbu hR2
      cases hl : lstG lessP zRP L i with
      | none =>
        rw [hl] at hbt hls
        replace hbt : better lessP (recG lessP zRP L i) (L.getD i zRP) = true := hbt
        replace hls : lstG lessP zRP L (i + 1) = some i := hls
        rw [if_pos hbt] at hrs
        have HR1s := Aside0.mk hrs
        have hlI : lstI L i = -1 := by unfold lstI; rw [hl]
        have HLs := Aside0.mk hls
        rw [hlI]
        clear hrs hbt hls hl hlI hlj
        go_wp2_with fail
        go_quiet (fail)
        have H1 := Aside0.mk (Kd.N_drewN HN1.out nq)
        have H2 := Aside0.mk (Kd.N_drewN HN2.out nq)
        have HB7 := Aside0.mk (pw_below_drewN HB.out nq)
        have f0 := (rows_at hsrt HB7.out (i := i) hi2).trans (congrArg some HVi.out)
        generalize wr.drewN nq = w7 at H1 H2 HB7 f0 ⊢
        go_wp2_with ((with_reducible refine gate_builtin (b := .append) (xs := #[.tmp 61, .tmp 66]) rfl ?_); at_builtin; refine Kd.N_append (Kd.slice 3 (Kd.int .i64)) (w0 := w5) w5.heap.size rfl (.tmp 61) (.tmp 66) 36 30 (.slice none 0 0) 24 rfl Tryz.underlying36 info30 rfl (by decide) (by omega) (.slice A11 R1.length c11) R1 xi [.slice Ai xi.length ci] (fun k_ => True ∧ some k_ ≠ (.slice A12 R2.length c12 : Value).ownBlock) (fun k_ => k_ < w5.heap.size) rfl rfl (FK_old HFKi.out HB7.out) (fun k hk => ⟨⟨trivial, fun he => absurd (Kd.N_base H2.out k he.symm) (by omega)⟩, fun he => absurd (Kd.N_base H1.out k he.symm) (by omega)⟩) (fun k hk => ⟨trivial, fun he => absurd (Kd.N_lt H2.out k he.symm) (by omega)⟩) H1.out HB7.out HB7.out.size (by have := HRl.out; omega) ?_; intro v8 w8 hN hB hg hat; obtain ⟨RZ8, hRZ⟩ : ∃ RZ, RZ = R1 ++ [xi] := ⟨_, rfl⟩; rw [← hRZ] at hN; have HRZ8 := Aside0.mk hRZ; clear hRZ; have HX8 := Aside0.mk hN; have HY8 := Aside0.mk (Kd.N_afterv (ok := fun _ => True) H2.out hg hat); have HD8 := Aside0.mk hB; clear hN hB hg hat; obtain ⟨E8, e8, rfl⟩ := Kd.N_slice HX8.out)
        obtain ⟨g1, g2⟩ := parts_at hsrt HD8.out (i := i) hi2
        rw [← HU.out.1] at g1
        rw [← HU.out.2.1] at g2
        by_cases hs : u0 = u2
        · have hsb : (u0 == u2) = true := by rw [hs]; exact beq_self_eq_true _
          have hsd : decide (u0 = u2) = true := decide_eq_true hs
          have HS := Aside0.mk hs
          clear hs
          go_quiet (fail)
          have K1 := Aside0.mk (Kd.N_drewN HX8.out nq)
          have K2 := Aside0.mk (Kd.N_drewN HY8.out nq)
          have KB := Aside0.mk (pw_below_drewN HD8.out nq)
          have f1 := (rows_at hsrt KB.out (i := i) hi2).trans (congrArg some HVi.out)
          clear g1 g2
          go_wp2_with ((with_reducible refine gate_builtin (b := .append) (xs := #[.tmp 81, .tmp 86]) rfl ?_); at_builtin; refine Kd.N_append (Kd.slice 3 (Kd.int .i64)) (w0 := w5) w5.heap.size rfl (.tmp 81) (.tmp 86) 36 30 (.slice none 0 0) 24 rfl Tryz.underlying36 info30 rfl (by decide) (by omega) (.slice A12 R2.length c12) R2 xi [.slice Ai xi.length ci] (fun k_ => True ∧ some k_ ≠ (.slice E8 RZ8.length e8 : Value).ownBlock) (fun k_ => k_ < w5.heap.size) rfl rfl (FK_old HFKi.out KB.out) (fun k hk => ⟨⟨trivial, fun he => absurd (Kd.N_base K1.out k he.symm) (by omega)⟩, fun he => absurd (Kd.N_base K2.out k he.symm) (by omega)⟩) (fun k hk => ⟨trivial, fun he => absurd (Kd.N_lt K1.out k he.symm) (by omega)⟩) K2.out KB.out KB.out.size (by have := HRl.out; omega) ?_; intro v10 w10 hN hB hg hat; obtain ⟨RZ10, hRZ⟩ : ∃ RZ, RZ = R2 ++ [xi] := ⟨_, rfl⟩; rw [← hRZ] at hN; have HRZ10 := Aside0.mk hRZ; clear hRZ; have HX10 := Aside0.mk hN; have HY10 := Aside0.mk (Kd.N_afterv (ok := fun _ => True) K1.out hg hat); have HD10 := Aside0.mk hB; clear hN hB hg hat; obtain ⟨E10, e10, rfl⟩ := Kd.N_slice HX10.out)
          go_roundg (L.length - (i + 1))
          case measure => omega
          case rel =>
            refine ⟨i + 1, congrArg _ (w64s (by have := HLn.out; omega)), ?_, by omega, Nat.le_refl _, ⟨?_⟩, ⟨?_⟩, HD10⟩
            · rw [lstI, HLs.out]
            · rw [HR1s.out, ← HRZ8.out]; exact HY10.out
            · rw [supG_succ L i hi2, if_pos (by rw [← HU.out.1, ← HU.out.2.1, HS.out, HU.out.2.2]), ← HR2.out, ← HXi.out, ← HRZ10.out]; exact HX10.out
        · have hsb : (u0 == u2) = false := beq_eq_false_iff_ne.mpr hs
          have hsd : decide (u0 = u2) = false := decide_eq_false hs
          have HS := Aside0.mk hs
          clear hs
          go_quiet (fail)
          have K1 := Aside0.mk (Kd.N_drewN HX8.out nq)
          have K2 := Aside0.mk (Kd.N_drewN HY8.out nq)
          have KB := Aside0.mk (pw_below_drewN HD8.out nq)
          have f1 := (rows_at hsrt KB.out (i := i) hi2).trans (congrArg some HVi.out)
          clear g1 g2
          go_wp2
          go_roundg (L.length - (i + 1))
          case measure => omega
          case rel =>
            refine ⟨i + 1, congrArg _ (w64s (by have := HLn.out; omega)), ?_, by omega, Nat.le_refl _, ⟨?_⟩, ⟨?_⟩, KB⟩
            · rw [lstI, HLs.out]
            · rw [HR1s.out, ← HRZ8.out]; exact K1.out
            · rw [supG_succ L i hi2, if_neg (by rw [← HU.out.1, ← HU.out.2.1, ← HU.out.2.2]; exact HS.out), List.append_nil, ← HR2.out]; exact K2.out
      | some j =>
        rw [hl] at hbt hls hlj
        replace hbt : better lessP (recG lessP zRP L i) (L.getD i zRP) = lessP (L.getD i zRP) (L.getD j zRP) := hbt
        replace hls : lstG lessP zRP L (i + 1) = if lessP (L.getD i zRP) (L.getD j zRP) = true then some i else some j := hls
        have hji := hlj j rfl
        have hjl : j < L.length := by omega
        have hlI : lstI L i = (j : Int) := by unfold lstI; rw [hl]
        rw [hlI]
        have hjd : decide ((j : Int) < 0) = false := decide_eq_false (by omega)
        have hjn : (j : Int) < (L.length : Int) := by omega
        have hmo : Tryz.prog.follows Departure.mixedOrders = true := by kernel_rfl
        have N1 := Aside0.mk (fun n os => leI_calls HLb.out hi2 hjl (grow (wr.drewN n) os))
        obtain ⟨p1, p2⟩ := parts_at hsrt HB.out (i := i) hi2
        obtain ⟨p3, p4⟩ := parts_at hsrt HB.out (i := j) hjl
        obtain ⟨u3, hu3⟩ : ∃ u, u = (L.getD j zRP).2.f0 := ⟨_, rfl⟩
        obtain ⟨u4, hu4⟩ : ∃ u, u = (L.getD j zRP).2.f1 := ⟨_, rfl⟩
        rw [← HU.out.1, ← HU.out.2.1, ← hu3, ← hu4] at N1
        rw [← HU.out.1] at p1
        rw [← HU.out.2.1] at p2
        rw [← hu3] at p3
        rw [← hu4] at p4
        have hgl : gp < wr.heap.size := (World.block_lt_of_cell? wr _ p1)
        have e1 := cell_grown hgl p1
        have e2 := cell_grown hgl p2
        have e3 := cell_grown hgl p3
        have e4 := cell_grown hgl p4
        clear hgl p1 p2 p3 p4 hlI hl hlj hu3 hu4
        cases hb : lessP (L.getD i zRP) (L.getD j zRP) with
        | true =>
          rw [hb] at hbt
          rw [hb, if_pos rfl] at hls
          rw [if_pos hbt] at hrs
          have HR1s := Aside0.mk hrs
          have HLs := Aside0.mk hls
          rw [show leI L i j = true from hb] at N1
          clear hrs hbt hls hb
          go_wp2_with fail
          go_quiet_grown ((go_at_call 18; with_reducible refine Calls.grown_of (N1.out _ _)))
          have H1 := Aside0.mk (Kd.N_below HN1.out (bel_grow _ nq osq))
          have H2 := Aside0.mk (Kd.N_below HN2.out (bel_grow _ nq osq))
          have HB7 := Aside0.mk (below_step HB.out (bel_grow _ nq osq))
          have f0 := (rows_at hsrt HB7.out (i := i) hi2).trans (congrArg some HVi.out)
          clear e1 e2 e3 e4 N1
          generalize grow (wr.drewN nq) osq = w7 at H1 H2 HB7 f0 ⊢
          go_wp2_with ((with_reducible refine gate_builtin (b := .append) (xs := #[.tmp 61, .tmp 66]) rfl ?_); at_builtin; refine Kd.N_append (Kd.slice 3 (Kd.int .i64)) (w0 := w5) w5.heap.size rfl (.tmp 61) (.tmp 66) 36 30 (.slice none 0 0) 24 rfl Tryz.underlying36 info30 rfl (by decide) (by omega) (.slice A11 R1.length c11) R1 xi [.slice Ai xi.length ci] (fun k_ => True ∧ some k_ ≠ (.slice A12 R2.length c12 : Value).ownBlock) (fun k_ => k_ < w5.heap.size) rfl rfl (FK_old HFKi.out HB7.out) (fun k hk => ⟨⟨trivial, fun he => absurd (Kd.N_base H2.out k he.symm) (by omega)⟩, fun he => absurd (Kd.N_base H1.out k he.symm) (by omega)⟩) (fun k hk => ⟨trivial, fun he => absurd (Kd.N_lt H2.out k he.symm) (by omega)⟩) H1.out HB7.out HB7.out.size (by have := HRl.out; omega) ?_; intro v8 w8 hN hB hg hat; obtain ⟨RZ8, hRZ⟩ : ∃ RZ, RZ = R1 ++ [xi] := ⟨_, rfl⟩; rw [← hRZ] at hN; have HRZ8 := Aside0.mk hRZ; clear hRZ; have HX8 := Aside0.mk hN; have HY8 := Aside0.mk (Kd.N_afterv (ok := fun _ => True) H2.out hg hat); have HD8 := Aside0.mk hB; clear hN hB hg hat; obtain ⟨E8, e8, rfl⟩ := Kd.N_slice HX8.out)
          obtain ⟨g1, g2⟩ := parts_at hsrt HD8.out (i := i) hi2
          rw [← HU.out.1] at g1
          rw [← HU.out.2.1] at g2
          by_cases hs : u0 = u2
          · have hsb : (u0 == u2) = true := by rw [hs]; exact beq_self_eq_true _
            have hsd : decide (u0 = u2) = true := decide_eq_true hs
            have HS := Aside0.mk hs
            clear hs
            go_quiet (fail)
            have K1 := Aside0.mk (Kd.N_drewN HX8.out nq)
            have K2 := Aside0.mk (Kd.N_drewN HY8.out nq)
            have KB := Aside0.mk (pw_below_drewN HD8.out nq)
            have f1 := (rows_at hsrt KB.out (i := i) hi2).trans (congrArg some HVi.out)
            clear g1 g2
            go_wp2_with ((with_reducible refine gate_builtin (b := .append) (xs := #[.tmp 81, .tmp 86]) rfl ?_); at_builtin; refine Kd.N_append (Kd.slice 3 (Kd.int .i64)) (w0 := w5) w5.heap.size rfl (.tmp 81) (.tmp 86) 36 30 (.slice none 0 0) 24 rfl Tryz.underlying36 info30 rfl (by decide) (by omega) (.slice A12 R2.length c12) R2 xi [.slice Ai xi.length ci] (fun k_ => True ∧ some k_ ≠ (.slice E8 RZ8.length e8 : Value).ownBlock) (fun k_ => k_ < w5.heap.size) rfl rfl (FK_old HFKi.out KB.out) (fun k hk => ⟨⟨trivial, fun he => absurd (Kd.N_base K1.out k he.symm) (by omega)⟩, fun he => absurd (Kd.N_base K2.out k he.symm) (by omega)⟩) (fun k hk => ⟨trivial, fun he => absurd (Kd.N_lt K1.out k he.symm) (by omega)⟩) K2.out KB.out KB.out.size (by have := HRl.out; omega) ?_; intro v10 w10 hN hB hg hat; obtain ⟨RZ10, hRZ⟩ : ∃ RZ, RZ = R2 ++ [xi] := ⟨_, rfl⟩; rw [← hRZ] at hN; have HRZ10 := Aside0.mk hRZ; clear hRZ; have HX10 := Aside0.mk hN; have HY10 := Aside0.mk (Kd.N_afterv (ok := fun _ => True) K1.out hg hat); have HD10 := Aside0.mk hB; clear hN hB hg hat; obtain ⟨E10, e10, rfl⟩ := Kd.N_slice HX10.out)
            go_roundg (L.length - (i + 1))
            case measure => omega
            case rel =>
              refine ⟨i + 1, congrArg _ (w64s (by have := HLn.out; omega)), ?_, by omega, Nat.le_refl _, ⟨?_⟩, ⟨?_⟩, HD10⟩
              · rw [lstI, HLs.out]
              · rw [HR1s.out, ← HRZ8.out]; exact HY10.out
              · rw [supG_succ L i hi2, if_pos (by rw [← HU.out.1, ← HU.out.2.1, HS.out, HU.out.2.2]), ← HR2.out, ← HXi.out, ← HRZ10.out]; exact HX10.out
          · have hsb : (u0 == u2) = false := beq_eq_false_iff_ne.mpr hs
            have hsd : decide (u0 = u2) = false := decide_eq_false hs
            have HS := Aside0.mk hs
            clear hs
            go_quiet (fail)
            have K1 := Aside0.mk (Kd.N_drewN HX8.out nq)
            have K2 := Aside0.mk (Kd.N_drewN HY8.out nq)
            have KB := Aside0.mk (pw_below_drewN HD8.out nq)
            have f1 := (rows_at hsrt KB.out (i := i) hi2).trans (congrArg some HVi.out)
            clear g1 g2
            go_wp2
            go_roundg (L.length - (i + 1))
            case measure => omega
            case rel =>
              refine ⟨i + 1, congrArg _ (w64s (by have := HLn.out; omega)), ?_, by omega, Nat.le_refl _, ⟨?_⟩, ⟨?_⟩, KB⟩
              · rw [lstI, HLs.out]
              · rw [HR1s.out, ← HRZ8.out]; exact K1.out
              · rw [supG_succ L i hi2, if_neg (by rw [← HU.out.1, ← HU.out.2.1, ← HU.out.2.2]; exact HS.out), List.append_nil, ← HR2.out]; exact K2.out
        | false =>
          rw [hb] at hbt
          rw [hb, if_neg (by decide)] at hls
          rw [if_neg (by rw [hbt]; decide), List.append_nil] at hrs
          have HR1s := Aside0.mk hrs
          have HLs := Aside0.mk hls
          rw [show leI L i j = false from hb] at N1
          clear hrs hbt hls hb
          go_wp2_with fail
          go_quiet_grown ((go_at_call 18; with_reducible refine Calls.grown_of (N1.out _ _)))
          have H1 := Aside0.mk (Kd.N_below HN1.out (bel_grow _ nq osq))
          have H2 := Aside0.mk (Kd.N_below HN2.out (bel_grow _ nq osq))
          have HB7 := Aside0.mk (below_step HB.out (bel_grow _ nq osq))
          clear e1 e2 e3 e4 N1
          generalize grow (wr.drewN nq) osq = w7 at H1 H2 HB7 ⊢
          go_wp2_with fail
          obtain ⟨g1, g2⟩ := parts_at hsrt HB7.out (i := i) hi2
          rw [← HU.out.1] at g1
          rw [← HU.out.2.1] at g2
          by_cases hs : u0 = u2
          · have hsb : (u0 == u2) = true := by rw [hs]; exact beq_self_eq_true _
            have hsd : decide (u0 = u2) = true := decide_eq_true hs
            have HS := Aside0.mk hs
            clear hs
            go_quiet (fail)
            have K1 := Aside0.mk (Kd.N_drewN H1.out nq)
            have K2 := Aside0.mk (Kd.N_drewN H2.out nq)
            have KB := Aside0.mk (pw_below_drewN HB7.out nq)
            have f1 := (rows_at hsrt KB.out (i := i) hi2).trans (congrArg some HVi.out)
            clear g1 g2
            go_wp2_with ((with_reducible refine gate_builtin (b := .append) (xs := #[.tmp 81, .tmp 86]) rfl ?_); at_builtin; refine Kd.N_append (Kd.slice 3 (Kd.int .i64)) (w0 := w5) w5.heap.size rfl (.tmp 81) (.tmp 86) 36 30 (.slice none 0 0) 24 rfl Tryz.underlying36 info30 rfl (by decide) (by omega) (.slice A12 R2.length c12) R2 xi [.slice Ai xi.length ci] (fun k_ => True ∧ some k_ ≠ (.slice A11 R1.length c11 : Value).ownBlock) (fun k_ => k_ < w5.heap.size) rfl rfl (FK_old HFKi.out KB.out) (fun k hk => ⟨⟨trivial, fun he => absurd (Kd.N_base K1.out k he.symm) (by omega)⟩, fun he => absurd (Kd.N_base K2.out k he.symm) (by omega)⟩) (fun k hk => ⟨trivial, fun he => absurd (Kd.N_lt K1.out k he.symm) (by omega)⟩) K2.out KB.out KB.out.size (by have := HRl.out; omega) ?_; intro v10 w10 hN hB hg hat; obtain ⟨RZ10, hRZ⟩ : ∃ RZ, RZ = R2 ++ [xi] := ⟨_, rfl⟩; rw [← hRZ] at hN; have HRZ10 := Aside0.mk hRZ; clear hRZ; have HX10 := Aside0.mk hN; have HY10 := Aside0.mk (Kd.N_afterv (ok := fun _ => True) K1.out hg hat); have HD10 := Aside0.mk hB; clear hN hB hg hat; obtain ⟨E10, e10, rfl⟩ := Kd.N_slice HX10.out)
            go_roundg (L.length - (i + 1))
            case measure => omega
            case rel =>
              refine ⟨i + 1, congrArg _ (w64s (by have := HLn.out; omega)), ?_, by omega, Nat.le_refl _, ⟨?_⟩, ⟨?_⟩, HD10⟩
              · rw [lstI, HLs.out]
              · rw [HR1s.out]; exact HY10.out
              · rw [supG_succ L i hi2, if_pos (by rw [← HU.out.1, ← HU.out.2.1, HS.out, HU.out.2.2]), ← HR2.out, ← HXi.out, ← HRZ10.out]; exact HX10.out
          · have hsb : (u0 == u2) = false := beq_eq_false_iff_ne.mpr hs
            have hsd : decide (u0 = u2) = false := decide_eq_false hs
            have HS := Aside0.mk hs
            clear hs
            go_quiet (fail)
            have K1 := Aside0.mk (Kd.N_drewN H1.out nq)
            have K2 := Aside0.mk (Kd.N_drewN H2.out nq)
            have KB := Aside0.mk (pw_below_drewN HB7.out nq)
            have f1 := (rows_at hsrt KB.out (i := i) hi2).trans (congrArg some HVi.out)
            clear g1 g2
            go_wp2
            go_roundg (L.length - (i + 1))
            case measure => omega
            case rel =>
              refine ⟨i + 1, congrArg _ (w64s (by have := HLn.out; omega)), ?_, by omega, Nat.le_refl _, ⟨?_⟩, ⟨?_⟩, KB⟩
              · rw [lstI, HLs.out]
              · rw [HR1s.out]; exact K1.out
              · rw [supG_succ L i hi2, if_neg (by rw [← HU.out.1, ← HU.out.2.1, ← HU.out.2.2]; exact HS.out), List.append_nil, ← HR2.out]; exact K2.out
    · have hltd : decide ((i : Int) < (L.length : Int)) = false := decide_eq_false (by omega)
      have hie : i = L.length := by omega
      have h1 := HN1.out
      have h2 := HN2.out
      rw [hie] at h1 h2 ⊢
      obtain ⟨R1, hR1⟩ : ∃ R1, R1 = (recG lessP zRP L L.length).map Prod.fst := ⟨_, rfl⟩
      obtain ⟨R2, hR2⟩ : ∃ R2, R2 = supG L L.length := ⟨_, rfl⟩
      rw [← hR1] at h1 h2 HE1 ⊢
      rw [← hR2] at h1 h2 HE2 ⊢
      have HN1c := Aside0.mk (Kd.N_reads' h1)
      have HN2c := Aside0.mk (Kd.N_reads' h2)
      have HC3w := Aside0.mk (Kd.C_below (Kd.C_below HC3N.out.2.2 (below_step HC34.out HC45.out)) HB.out)
      have HC4w := Aside0.mk (Kd.C_below (Kd.C_below HC4N.out.2.2 HC45.out) HB.out)
      clear h1 h2 hR1 hR2 hie hltd
      have hltd : decide ((L.length : Int) < (L.length : Int)) = false := decide_eq_false (by omega)
      go_wp2_with (first
        | (go_at_call 16; (with_reducible refine (schismalaw16_same.calls k1 A3 c3 R A11 c11 R1 true _ HC3w.out HC3N.out.2.1 HN1c.out.2.2 HN1c.out.2.1 HE1.out).mono ?_); rintro e w8 ⟨rfl, hd⟩; have HD8 := Aside0.mk hd.below; clear hd)
        | (go_at_call 16; (with_reducible refine (schismalaw16_same.calls k2 A4 c4 S A12 c12 R2 true _ (Kd.C_below HC4w.out HD8.out) HC4N.out.2.1 (Kd.C_below HN2c.out.2.2 HD8.out) HN2c.out.2.1 HE2.out).mono ?_); rintro e w9 ⟨rfl, hd⟩; have HD9 := Aside0.mk (below_step HD8.out hd.below); clear hd))
      go_ret
      exact ⟨rfl, below_step (below_step HB5.out HB.out) HD9.out⟩
end Go.Proofs.YtobdccgpbohpiaaGreatDoor
