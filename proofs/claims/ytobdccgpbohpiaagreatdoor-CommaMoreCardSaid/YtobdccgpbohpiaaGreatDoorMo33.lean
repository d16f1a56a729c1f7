/- Mo: a part of the proof. -/
import Derived.Deep.RegionWith
import Derived.Test.YtobdccgpbohpiaaGreatDoorMo22
import Derived.Test.YtobdccgpbohpiaaGreatDoorMo31
import Derived.Test.YtobdccgpbohpiaaGreatDoorMo32
set_option linter.unusedVariables false
set_option linter.unusedSimpArgs false
namespace Go.Proofs.YtobdccgpbohpiaaGreatDoor
open Go.RowKit Go.Lib Go.Sort F Go.Proofs.YtobdccgpbohpiaaGreatDoorW.PrintWords Go.Proofs.YtobdccgpbohpiaaGreatDoorW.PrintLast Go.Proofs.YtobdccgpbohpiaaGreatDoorW.PrintMore
theorem q_cells {W : World} {g : Nat} {a b c : Value} {e : Nat} (h : W.heap[g]? = some (.cells #[a, b, c] e (0, 0))) : W.cell? ⟨g, 0, none⟩ = some a ∧ W.cell? ⟨g, 1, none⟩ = some b ∧ W.cell? ⟨g, 2, none⟩ = some c := by simp [World.cell?, h]
theorem q_set {W : World} {g : Nat} {a b c v : Value} {e : Nat} (h : W.heap[g]? = some (.cells #[a, b, c] e (0, 0))) : (W.setCell ⟨g, 1, none⟩ v).heap[g]? = some (.cells #[a, v, c] e (0, 0)) := (setCell_at h 1 v).1
theorem C_pre {α : Type} {d : Kd α} {W : World} {A : Option Addr} {l t : List α} (h : d.C W A (l ++ t).length (l ++ t)) : d.C W A l.length l := by
  obtain ⟨_, h2, h3⟩ := h
  refine ⟨rfl, by rw [List.length_append] at h2; omega, fun hp => ?_⟩
  obtain ⟨ad, e, hc⟩ := h3 (by rw [List.length_append]; omega)
  exact ⟨ad, e, fun j q hj => hc j q (by rw [List.getElem?_append_left (List.getElem?_eq_some_iff.1 hj).1]; exact hj)⟩
set_option maxRecDepth 100000 in
set_option maxHeartbeats 8000000 in
theorem more_known (a0 a1 a2 a3 a4 a5 b : Int) (kM : Nat) (p : List Int) (H : Int) (x : List Int) (w : World) (hG : Glob w) (hM : schismalaw16_Make.f kM a0 a1 a2 a3 a4 a5 = some (p, H, x, false)) :
    Calls Tryz.prog 7 #[.agg #[.int .u8 a0, .int .i8 a1, .int .i8 a2, .int .i8 a3, .int .i8 a4, .int .u8 a5], .int .u8 b] w fun e w' => e = .returned (.bool true) ∧ Below w.heap.size w w' := by
  have HG := Aside0.mk hG
  have HM := Aside0.mk hM
  clear hG hM
  go_enter Tryz.func7, Tryz.ntmps7
  go_wp2_with (first
    | (go_at_call 12; (with_reducible refine (schismalaw16_Make.calls kM a0 a1 a2 a3 a4 a5 p H x _ _ ?sG HM.out).mono ?_); (case sG => exact Glob.below HG.out (below_alloc (Below.refl _ _) _)); rintro e w1 ⟨v0, v2, rfl, hV, hR, hb⟩; have HV := Aside0.mk hV; have HRx := Aside0.mk hR; have HB1 := Aside0.mk (show Below w.heap.size w w1 from below_step (below_alloc (Below.refl _ _) _) hb); clear hV hR hb; obtain ⟨A0, c0, rfl⟩ := Kd.V_slice HV.out; obtain ⟨A2, c2, rfl⟩ := Kd.R_slice HRx.out; have HCp := Aside0.mk (Kd.V_reads' HV.out); have HCx := Aside0.mk (Kd.R_reads' HRx.out))
    | (go_at_call 13; (with_reducible refine (g_known.calls true w2 (Glob.below HG.out HB2.out) rfl).mono ?_); rintro e w3 ⟨rfl, hb⟩; have HB3 := Aside0.mk (below_step HB2.out hb); clear hb)
    | (go_at_call 13; (with_reducible refine (g_known.calls true _ ?sG rfl).mono ?_); (case sG => exact Glob.below HG.out (below_alloc HB1.out _)); rintro e w2 ⟨rfl, hb⟩; have bq : w2.heap[w1.heap.size]? = some (.cells #[.slice A0 p.length c0, .int .i64 H, .slice A2 x.length c2] 32 (0, 0)) := (hb.block w1.heap.size (by simp only [size_alloc]; omega)).trans (by simp only [heap_alloc, size_alloc]; repeat (first | (rw [if_pos trivial]) | (rw [if_pos (by omega)]) | (rw [if_neg (by omega)]))); obtain ⟨hc0, hc1, hc2⟩ := q_cells bq; have BQ := Aside0.mk bq; have HQ2 := Aside0.mk (Array.getElem?_eq_some_iff.1 bq).1; clear bq; have HB2 := Aside0.mk (show Below w.heap.size w w2 from below_step (below_alloc HB1.out _) hb); have HC2 := Aside0.mk (show Below w1.heap.size w1 w2 from below_step (below_alloc (Below.refl _ _) _) hb); clear hb))
  go_ret
  exact ⟨rfl, HB3.out⟩
set_option maxRecDepth 100000 in
set_option maxHeartbeats 16000000 in
theorem more_main (a0 a1 a2 a3 a4 a5 b : Int) (kM : Nat) (p : List Int) (H : Int) (x : List Int) (w : World) (hG : Glob w) (hM : schismalaw16_Make.f kM a0 a1 a2 a3 a4 a5 = some (p, H, x, true)) (hH : 1 ≤ H ∧ H ≤ 130) (hb : 0 ≤ b ∧ b < 256) (H2 : Int) (hH2 : H2 = 1 + Int.tmod b H)
    (kL : Nat) (all : List (List Int)) (hL : comma_List.f kL p H x = some (all, 0)) (kR : Nat) (R : List (List Int)) (hR : comma_Records.f kR p H x = some (R, 0)) (kS : Nat) (S : List (List Int)) (hS : comma_Smallest.f kS p H x 1 = some (S, 0)) (kL2 : Nat) (l t : List (List Int)) (hL2 : comma_List.f kL2 p H2 x = some (l, 0)) (hlt : all = l ++ t) (hal : all.length ≤ 100000)
    (kE : Nat) (hE : schismalaw16_same.f kE l l = some true) (hSg : ∀ r ∈ all, ∃ k, monzo_Sign.f k p r = some (1, 0)) (hnil : all = [] → R = [] ∧ S = []) (hcons : ∀ a m, all = a :: m → ∃ z rs, S = [z] ∧ R = rs ++ [z] ∧ R.head? = some a ∧ rs.length ≤ 100000 ∧ (∃ k, schismalaw12_Same.f k a a = some true) ∧ ∃ k, schismalaw12_Same.f k z z = some true) :
    Calls Tryz.prog 7 #[.agg #[.int .u8 a0, .int .i8 a1, .int .i8 a2, .int .i8 a3, .int .i8 a4, .int .u8 a5], .int .u8 b] w fun e w' => e = .returned (.bool true) ∧ Below w.heap.size w w' := by
  have HG := Aside0.mk hG
  have HM := Aside0.mk hM
  have HL := Aside0.mk hL
  have HR := Aside0.mk hR
  have HS := Aside0.mk hS
  have HL2 := Aside0.mk hL2
  have HLT := Aside0.mk hlt
  have HE := Aside0.mk hE
  have HSG := Aside0.mk hSg
  have Hnil := Aside0.mk hnil
  have Hcons := Aside0.mk hcons
  have Hal := Aside0.mk hal
  have Hle := Aside0.mk (show l.length ≤ all.length from by rw [hlt, List.length_append]; omega)
  have hle : ¬ all.length < l.length := by have := Hle.out; omega
  have hled : decide ((l.length : Int) > (all.length : Int)) = false := decide_eq_false (by omega)
  have hwb : wrap64 b = b := wrap64_id (by omega)
  have hH0 : ¬ H = 0 := by omega
  have hm1 : 0 ≤ Int.tmod b H ∧ Int.tmod b H < 256 := by
    rw [Int.tmod_eq_emod_of_nonneg hb.1]
    have h1 := Int.emod_nonneg b hH0
    have h2 := Int.emod_lt_of_pos b (show 0 < H by omega)
    omega
  have hw2 : wrap64 (1 + Int.tmod b H) = H2 := by rw [hH2, wrap64_id (by omega)]
  clear hG hM hL hR hS hL2 hlt hE hSg hnil hcons hal hb hH hH2 hm1
  go_enter Tryz.func7, Tryz.ntmps7
  go_wp2_with (first
    | (go_at_call 12; (with_reducible refine (schismalaw16_Make.calls kM a0 a1 a2 a3 a4 a5 p H x _ _ ?sG HM.out).mono ?_); (case sG => exact Glob.below HG.out (below_alloc (Below.refl _ _) _)); rintro e w1 ⟨v0, v2, rfl, hV, hR, hb⟩; have HV := Aside0.mk hV; have HRx := Aside0.mk hR; have HB1 := Aside0.mk (show Below w.heap.size w w1 from below_step (below_alloc (Below.refl _ _) _) hb); clear hV hR hb; obtain ⟨A0, c0, rfl⟩ := Kd.V_slice HV.out; obtain ⟨A2, c2, rfl⟩ := Kd.R_slice HRx.out; have HCp := Aside0.mk (Kd.V_reads' HV.out); have HCx := Aside0.mk (Kd.R_reads' HRx.out))
    | (go_at_call 13; (with_reducible refine (g_known.calls true _ ?sG rfl).mono ?_); (case sG => exact Glob.below HG.out (below_alloc HB1.out _)); rintro e w2 ⟨rfl, hb⟩; have bq : w2.heap[w1.heap.size]? = some (.cells #[.slice A0 p.length c0, .int .i64 H, .slice A2 x.length c2] 32 (0, 0)) := (hb.block w1.heap.size (by simp only [size_alloc]; omega)).trans (by simp only [heap_alloc, size_alloc]; repeat (first | (rw [if_pos trivial]) | (rw [if_pos (by omega)]) | (rw [if_neg (by omega)]))); obtain ⟨hc0, hc1, hc2⟩ := q_cells bq; have BQ := Aside0.mk bq; have HQ2 := Aside0.mk (Array.getElem?_eq_some_iff.1 bq).1; clear bq; have HB2 := Aside0.mk (show Below w.heap.size w w2 from below_step (below_alloc HB1.out _) hb); have HC2 := Aside0.mk (show Below w1.heap.size w1 w2 from below_step (below_alloc (Below.refl _ _) _) hb); clear hb)
    | (go_at_call 14; (with_reducible refine (comma_List.calls kL A0 c0 p H A2 c2 x all 0 w2 (Glob.below HG.out HB2.out) (Kd.C_below HCp.out.2.2 HC2.out) HCp.out.2.1 (Kd.C_below HCx.out.2.2 HC2.out) HCx.out.2.1 HL.out).mono ?_); rintro e w3 ⟨v3, rfl, hN, hb⟩; have bq : w3.heap[w1.heap.size]? = some (.cells #[.slice A0 p.length c0, .int .i64 H, .slice A2 x.length c2] 32 (0, 0)) := (hb.block w1.heap.size (Array.getElem?_eq_some_iff.1 BQ.out).1).trans BQ.out; clear hc0 hc1 hc2; obtain ⟨hc0, hc1, hc2⟩ := q_cells bq; clear BQ; have BQ := Aside0.mk bq; have HQ3 := Aside0.mk (Array.getElem?_eq_some_iff.1 bq).1; clear bq; have HB3 := Aside0.mk (below_step HB2.out hb); have HC3 := Aside0.mk (show Below w1.heap.size w1 w3 from below_step HC2.out hb); have HN3 := Aside0.mk hN; clear hN hb; obtain ⟨A3, c3, rfl⟩ := Kd.N_slice HN3.out)
    | (go_at_call 25; (with_reducible refine (comma_Records.calls kR A0 c0 p H A2 c2 x R 0 w3 (Glob.below HG.out HB3.out) (Kd.C_below HCp.out.2.2 HC3.out) HCp.out.2.1 (Kd.C_below HCx.out.2.2 HC3.out) HCx.out.2.1 HR.out).mono ?_); rintro e w4 ⟨v4, rfl, hN, hb⟩; have bq : w4.heap[w1.heap.size]? = some (.cells #[.slice A0 p.length c0, .int .i64 H, .slice A2 x.length c2] 32 (0, 0)) := (hb.block w1.heap.size (Array.getElem?_eq_some_iff.1 BQ.out).1).trans BQ.out; clear hc0 hc1 hc2; obtain ⟨hc0, hc1, hc2⟩ := q_cells bq; clear BQ; have BQ := Aside0.mk bq; have HQ4 := Aside0.mk (Array.getElem?_eq_some_iff.1 bq).1; clear bq; have HB4 := Aside0.mk (below_step HB3.out hb); have HC4 := Aside0.mk (show Below w1.heap.size w1 w4 from below_step HC3.out hb); have HN4 := Aside0.mk hN; have HN34 := Aside0.mk (Kd.N_below HN3.out hb); clear hN hb; obtain ⟨A4, c4, rfl⟩ := Kd.N_slice HN4.out)
    | (go_at_call 17; (with_reducible refine (comma_Smallest.calls kS A0 c0 p H A2 c2 x 1 S 0 w4 (Glob.below HG.out HB4.out) (Kd.C_below HCp.out.2.2 HC4.out) HCp.out.2.1 (Kd.C_below HCx.out.2.2 HC4.out) HCx.out.2.1 HS.out).mono ?_); rintro e w5 ⟨v5, rfl, hN, hb⟩; have bq : w5.heap[w1.heap.size]? = some (.cells #[.slice A0 p.length c0, .int .i64 H, .slice A2 x.length c2] 32 (0, 0)) := (hb.block w1.heap.size (Array.getElem?_eq_some_iff.1 BQ.out).1).trans BQ.out; clear hc0 hc1 hc2; obtain ⟨hc0, hc1, hc2⟩ := q_cells bq; clear BQ; have BQ := Aside0.mk bq; have HQ5 := Aside0.mk (Array.getElem?_eq_some_iff.1 bq).1; clear bq; have HB5 := Aside0.mk (below_step HB4.out hb); have HC5 := Aside0.mk (show Below w1.heap.size w1 w5 from below_step HC4.out hb); have HN5 := Aside0.mk hN; have HN35 := Aside0.mk (Kd.N_below HN34.out hb); have HN45 := Aside0.mk (Kd.N_below HN4.out hb); clear hN hb; obtain ⟨A5, c5, rfl⟩ := Kd.N_slice HN5.out; have hfz : w5.frozen? ⟨w1.heap.size, 1, none⟩ = false := (by simp [World.frozen?, BQ.out]); have HBs := Aside0.mk (show Below w.heap.size w (w5.setCell ⟨w1.heap.size, 1, none⟩ (.int .i64 H2)) from HB5.out.setCell (by exact HB1.out.size) _); have HCs := Aside0.mk (show Below w1.heap.size w1 (w5.setCell ⟨w1.heap.size, 1, none⟩ (.int .i64 H2)) from HC5.out.setCell (by exact Nat.le_refl _) _); have HN3s := Aside0.mk (Kd.N_far (p := ⟨w1.heap.size, 1, none⟩) HN35.out (fun k hk => Nat.ne_of_gt (Nat.lt_of_lt_of_le HQ2.out hk)) (.int .i64 H2)); have HN4s := Aside0.mk (Kd.N_far (p := ⟨w1.heap.size, 1, none⟩) HN45.out (fun k hk => Nat.ne_of_gt (Nat.lt_of_lt_of_le HQ3.out hk)) (.int .i64 H2)); have HN5s := Aside0.mk (Kd.N_far (p := ⟨w1.heap.size, 1, none⟩) HN5.out (fun k hk => Nat.ne_of_gt (Nat.lt_of_lt_of_le HQ4.out hk)) (.int .i64 H2)); have BQs := Aside0.mk (q_set (v := .int .i64 H2) BQ.out))
    | (go_at_call 14; (with_reducible refine (comma_List.calls kL2 A0 c0 p H2 A2 c2 x l 0 _ (Glob.below HG.out HBs.out) (Kd.C_below HCp.out.2.2 HCs.out) HCp.out.2.1 (Kd.C_below HCx.out.2.2 HCs.out) HCx.out.2.1 HL2.out).mono ?_); rintro e w6 ⟨v6, rfl, hN, hb⟩; have HN6 := Aside0.mk hN; have HB6 := Aside0.mk (below_step HBs.out hb); have HC6 := Aside0.mk (below_step HCs.out hb); have H3 := Aside0.mk (Kd.N_below HN3s.out hb); have H4 := Aside0.mk (Kd.N_below HN4s.out hb); have H5 := Aside0.mk (Kd.N_below HN5s.out hb); have BQ6 := Aside0.mk ((hb.block w1.heap.size (Array.getElem?_eq_some_iff.1 BQs.out).1).trans BQs.out); clear hN hb hc0 hc1 hc2; obtain ⟨A6, c6, rfl⟩ := Kd.N_slice HN6.out; have HCl := Aside0.mk (Kd.N_reads' HN6.out); have HCa := Aside0.mk (Kd.N_reads' H3.out); have HCr := Aside0.mk (Kd.N_reads' H4.out); have HCs5 := Aside0.mk (Kd.N_reads' H5.out); have HCt := Aside0.mk (show Kd.C (Kd.slice 3 (Kd.int .i64)) w6 A3 l.length l from C_pre (t := t) (by rw [← HLT.out]; exact HCa.out.2.2)); have hcap : l.length ≤ c3 := Nat.le_trans Hle.out HCa.out.2.1; have hcap2 : (l.length : Int) ≤ (c3 : Int) := (by omega))
    | (go_at_call 16; refine calls_of_args (args' := #[.slice A6 l.length c6, .slice A3 l.length c3]) rfl ?_; (with_reducible refine (schismalaw16_same.calls kE A6 c6 l A3 c3 l true _ HCl.out.2.2 HCl.out.2.1 HCt.out hcap HE.out).mono ?_); rintro e w7 ⟨rfl, hd⟩; have HD := Aside0.mk (show Below w6.heap.size w6 w7 from hd.below); clear hd))
  go_loopg [15, 16, 17] all.length (fun gg s15 s16 s17 wr => ∃ i : Nat, s15 = .int .i64 i ∧ i ≤ all.length ∧ all.length - i ≤ gg ∧ Aside0 (Below w6.heap.size w6 wr))
  case atStart => exact ⟨0, rfl, by omega, by omega, HD⟩
  case round =>
    clear HD
    obtain ⟨i, rfl, hi, hgg, HD⟩ := hrel
    by_cases hlt : i < all.length
    · have hltd : decide ((i : Int) < (all.length : Int)) = true := decide_eq_true (by omega)
      have q0 : (i : Int) < (all.length : Int) := by omega
      obtain ⟨ad, Ar, cr, ear, hr0, hlr, hCr⟩ := at_L1 HCa.out.2.2 (i : Int) (by omega) q0
      cases ear
      simp only [Int.toNat_natCast] at hr0
      obtain ⟨r, hr⟩ : ∃ r, r = rd_L1 all (i : Int) := ⟨_, rfl⟩
      rw [← hr] at hr0 hlr hCr
      have hrm : r ∈ all := by
        rw [hr]
        unfold rd_L1
        rw [Int.toNat_natCast, List.getD_eq_getElem?_getD, List.getElem?_eq_getElem hlt]
        exact List.getElem_mem hlt
      obtain ⟨kS1, hsg⟩ := HSG.out r hrm
      have HSg := Aside0.mk hsg
      have HLrow := Aside0.mk hlr
      have hr1 : wr.cell? (ad.add i) = some (.slice Ar r.length cr) := (HD.out.cell (World.block_lt_of_cell? w6 _ hr0)).trans hr0
      have hq1 := (q_cells ((HD.out.block w1.heap.size (Array.getElem?_eq_some_iff.1 BQ6.out).1).trans BQ6.out)).1
      have HD9 := Aside0.mk (below_drew1 HD.out)
      have HCrow := Aside0.mk (Kd.C_below hCr HD9.out)
      clear hr hrm hsg hlr hCr hr0
      go_wp2_with fail
      go_region_with (go_at_call 22; (with_reducible refine (monzo_Sign.calls kS1 A0 c0 p Ar cr r 1 0 _ (Glob.below HG.out (below_step HB6.out HD9.out)) (Kd.C_below HCp.out.2.2 (below_step HC6.out HD9.out)) HCp.out.2.1 HCrow.out HLrow.out HSg.out).mono ?_); rintro e w8 ⟨rfl, hb⟩; have HD8 := Aside0.mk (below_step HD9.out hb); clear hb)
      all_goals go_wp2
      all_goals go_roundg (all.length - (i + 1))
      all_goals first
        | omega
        | exact ⟨i + 1, congrArg _ (w64s (by have := Hal.out; omega)), by omega, Nat.le_refl _, HD8⟩
    · have hltd : decide ((i : Int) < (all.length : Int)) = false := decide_eq_false (by omega)
      by_cases h0 : all = []
      · obtain ⟨rfl, rfl⟩ := Hnil.out h0
        subst h0
        go_wp2
        go_ret
        exact ⟨rfl, below_step HB6.out HD.out⟩
      · obtain ⟨a, m, ham⟩ := List.exists_cons_of_ne_nil h0
        obtain ⟨z, rs, hSz, hRz, hhd, hrs, ⟨k1, hk1⟩, ⟨k2, hk2⟩⟩ := Hcons.out a m ham
        have HK1 := Aside0.mk hk1
        have HK2 := Aside0.mk hk2
        have hRl : R.length = rs.length + 1 := by rw [hRz, List.length_append, List.length_singleton]
        have hal0 : 0 < all.length := List.length_pos_iff.2 h0
        obtain ⟨ad0, E0, f0, ee, he0, hf0, hE0⟩ := at_L1 HCa.out.2.2 (0 : Int) (by omega) (by omega)
        have ea : rd_L1 all 0 = a := by rw [ham]; rfl
        rw [ea] at he0 hf0 hE0
        obtain ⟨adr, B0, d0, er, hb0, hd0, hB0⟩ := at_L1 HCr.out.2.2 (0 : Int) (by omega) (by omega)
        have er0 : rd_L1 R 0 = a := by
          cases hR0 : R with
          | nil => rw [hR0] at hhd; cases hhd
          | cons y q => rw [hR0] at hhd; exact Option.some.inj hhd
        rw [er0] at hb0 hd0 hB0
        obtain ⟨adz, Bz, dz, ez, hbz, hdz, hBz⟩ := at_L1 HCr.out.2.2 ((rs.length : Nat) : Int) (by omega) (by omega)
        have erz : rd_L1 R ((rs.length : Nat) : Int) = z := by
          unfold rd_L1
          rw [Int.toNat_natCast, hRz, List.getD_eq_getElem?_getD, List.getElem?_append_right (Nat.le_refl _), Nat.sub_self]; rfl
        rw [erz] at hbz hdz hBz
        obtain ⟨ads, Ez, fz, es, hez, hfz, hEz⟩ := at_L1 HCs5.out.2.2 (0 : Int) (by omega) (by rw [hSz]; show (0 : Int) < 1; decide)
        have esz : rd_L1 S 0 = z := by rw [hSz]; rfl
        rw [esz] at hez hfz hEz
        cases ee
        cases er
        obtain rfl : adr = adz := by injection ez
        cases es
        have cl := fun {g : Addr} {v : Value} (h : w6.cell? g = some v) => (HD.out.cell (World.block_lt_of_cell? w6 _ h)).trans h
        have he1 := cl he0
        have hb1 := cl hb0
        have hbz1 := cl hbz
        have hez1 := cl hez
        have HB0 := Aside0.mk (Kd.C_below hB0 HD.out)
        have HE0 := Aside0.mk (Kd.C_below hE0 HD.out)
        have HBz := Aside0.mk (Kd.C_below hBz HD.out)
        have HEz := Aside0.mk (Kd.C_below hEz HD.out)
        have hix : wrap64 ((R.length : Int) - 1) = ((rs.length : Nat) : Int) := by rw [wrap64_id (by omega)]; omega
        have hix2 : IntKind.i64.wrap ((R.length : Int) - 1) = ((rs.length : Nat) : Int) := by rw [IntKind.wrap_i64]; omega
        have hal1 : ¬ all.length = 0 := by omega
        have hR0 : 0 < R.length := by omega
        have hRd : decide ((R.length : Int) > 0) = true := decide_eq_true (by omega)
        have q1 : (0 : Int) < (R.length : Int) := by omega
        have q2 : (0 : Int) < (all.length : Int) := by omega
        have q3 : ((rs.length : Nat) : Int) < (R.length : Int) := by omega
        simp only [Int.toNat_natCast] at hbz1
        have he2 : wr.cell? ad0 = some (.slice E0 a.length f0) := he1
        have hb2 : wr.cell? adr = some (.slice B0 a.length d0) := hb1
        have hez2 : wr.cell? ads = some (.slice Ez z.length fz) := hez1
        clear he0 hb0 hbz hez hB0 hE0 hBz hEz ea er0 erz esz hRz hhd hk1 hk2 hRl ham cl
        subst hSz
        have hmo : Tryz.prog.follows Departure.mixedOrders = true := by kernel_rfl
        go_wp2_with fail
        go_quiet (first
          | (go_at_call 26; (with_reducible refine (schismalaw12_Same.calls k1 B0 d0 a E0 f0 a true _ ?s1 hd0 ?s3 hf0 HK1.out).mono ?_); (case s1 => repeat (first | exact HB0.out | (with_reducible refine Kd.C_drewN ?_ _) | (with_reducible refine Kd.C_drew ?_))); (case s3 => repeat (first | exact HE0.out | (with_reducible refine Kd.C_drewN ?_ _) | (with_reducible refine Kd.C_drew ?_))); rintro e w' ⟨rfl, ⟨nd, rfl⟩⟩; (first | exact ⟨rfl, _, World.drewN_drewN _ _ _⟩ | exact ⟨rfl, _, Eq.trans (World.drewN_drewN _ _ _) (congrArg (World.drewN _) (Nat.add_assoc _ _ _))⟩))
          | (go_at_call 26; (with_reducible refine (schismalaw12_Same.calls k2 Bz dz z Ez fz z true _ ?s1 hdz ?s3 hfz HK2.out).mono ?_); (case s1 => repeat (first | exact HBz.out | (with_reducible refine Kd.C_drewN ?_ _) | (with_reducible refine Kd.C_drew ?_))); (case s3 => repeat (first | exact HEz.out | (with_reducible refine Kd.C_drewN ?_ _) | (with_reducible refine Kd.C_drew ?_))); rintro e w' ⟨rfl, ⟨nd, rfl⟩⟩; (first | exact ⟨rfl, _, World.drewN_drewN _ _ _⟩ | exact ⟨rfl, _, Eq.trans (World.drewN_drewN _ _ _) (congrArg (World.drewN _) (Nat.add_assoc _ _ _))⟩)))
        go_wp2
        go_ret
        exact ⟨rfl, below_step HB6.out (pw_below_drewN HD.out _)⟩
end Go.Proofs.YtobdccgpbohpiaaGreatDoor
