/- Co: a part of the proof. -/
import Derived.Test.YtobdccgpbohpiaaGreatDoorCo33
set_option linter.unusedVariables false
set_option linter.unusedSimpArgs false
namespace Go.Proofs.YtobdccgpbohpiaaGreatDoor
open Go.RowKit Go.Lib F Go.Proofs.YtobdccgpbohpiaaGreatDoorW.PrintWords Go.Proofs.YtobdccgpbohpiaaGreatDoorW.PrintLast Go.Proofs.YtobdccgpbohpiaaGreatDoorW.PrintMore
set_option maxRecDepth 100000 in
set_option maxHeartbeats 16000000 in
theorem combines_neg (a0 a1 a2 a3 a4 : Int) (p x : List Int) (Am : Option Addr) (cm : Nat) (ys : List (Int × Int × Int × Int)) (c : Int) (w : World) (hG : Glob w) (hM : schismalaw12_Make.f a0 a1 a2 a3 a4 = some (p, x)) (hQ : Quads w Am ys) (hn : ys.length ≤ 2) (hc1 : -1 ≤ c) (hc2 : c < 0)
    (rows : List (List Int)) (hrl : rows.length = ys.length) (hI : ∀ j q, ys[j]? = some q → g_Interval.f p q.1 q.2.1 q.2.2.1 q.2.2.2 = some (rows.getD j []))
    (kC : Nat) (hC : g_Combine.f kC p (x :: rows) c = some ([], 3)) :
    Calls Tryz.prog 5 #[.agg #[.int .u8 a0, .int .i8 a1, .int .i8 a2, .int .i8 a3, .int .i8 a4], .slice Am ys.length cm, .int .i8 c] w fun e w' => e = .returned (.bool true) ∧ Below w.heap.size w w' := by
  have HG := Aside0.mk hG
  have HM := Aside0.mk hM
  have HQ := Aside0.mk hQ
  have HI := Aside0.mk hI
  have HC := Aside0.mk hC
  have HRL := Aside0.mk hrl
  have h1d : decide ((ys.length : Int) > 2) = false := decide_eq_false (by omega)
  have h2d : decide (c < -1) = false := decide_eq_false (by omega)
  have h3d : decide (c > 3) = false := decide_eq_false (by omega)
  have h4d : decide (c < 0) = true := decide_eq_true (by omega)
  have hwm : wrap64 c = c := wrap64_id (by omega)
  have Hn := Aside0.mk hn
  clear hG hM hQ hI hC hrl hn
  go_enter Tryz.func5, Tryz.ntmps5
  go_wp2_with (first
    | (go_at_call 13; (with_reducible refine (g_known.calls true _ ?sG rfl).mono ?_); (case sG => exact Glob.below HG.out (below_alloc (Below.refl _ _) _)); rintro e w1 ⟨rfl, hb⟩; have bq : w1.heap[w.heap.size]? = some (.cells #[.int .u8 a0, .int .i8 a1, .int .i8 a2, .int .i8 a3, .int .i8 a4] 25 (0, 0)) := (hb.block w.heap.size (by simp only [size_alloc]; omega)).trans (by simp only [heap_alloc]; rw [if_pos trivial]); have hc0 : w1.cell? ⟨w.heap.size, 0, none⟩ = some (.int .u8 a0) := (by simp [World.cell?, bq]); have hc1 : w1.cell? ⟨w.heap.size, 1, none⟩ = some (.int .i8 a1) := (by simp [World.cell?, bq]); have hc2 : w1.cell? ⟨w.heap.size, 2, none⟩ = some (.int .i8 a2) := (by simp [World.cell?, bq]); have hc3 : w1.cell? ⟨w.heap.size, 3, none⟩ = some (.int .i8 a3) := (by simp [World.cell?, bq]); have hc4 : w1.cell? ⟨w.heap.size, 4, none⟩ = some (.int .i8 a4) := (by simp [World.cell?, bq]); clear bq; have HB1 := Aside0.mk (show Below w.heap.size w w1 from below_step (below_alloc (Below.refl _ _) _) hb); clear hb)
    | (go_at_call 19; (with_reducible refine (schismalaw12_Make.calls a0 a1 a2 a3 a4 p x _ HM.out).mono ?_); rintro e w2 ⟨v0, v1, rfl, hV, hR, hb⟩; have HV := Aside0.mk hV; have HRx := Aside0.mk hR; have HB2 := Aside0.mk (show Below w.heap.size w w2 from below_step HB1.out hb); have HS12 := Aside0.mk (Nat.le_trans HB1.out.size hb.size); clear hV hR hb hc0 hc1 hc2 hc3 hc4; obtain ⟨A0, c0, rfl⟩ := Kd.V_slice HV.out; obtain ⟨A2, c2, rfl⟩ := Kd.R_slice HRx.out; have HCp := Aside0.mk (Kd.V_reads' HV.out); have HCx := Aside0.mk (Kd.R_reads' HRx.out))
    | ((with_reducible refine gate_dst (N := 47) rfl ?_); refine Kd.N_lit (Kd.slice 3 (Kd.int .i64)) _ 30 ?hg (N' := 47) ?hd (xs := [x]) (inner := [.slice A2 x.length c2]) (ok := fun k_ => w.heap.size ≤ k_) (okp := fun k_ => w.heap.size ≤ k_) ?hr ?hp (fun _ hk => hk) HB2.out.size (Below.refl _ _) (Nat.le_refl _) (by simp) ?_; (case hd => rfl); (case hg => rfl); (case hr => first | (go_simp; done) | (go_simp; rfl)); (case hp => exact Reps.one (show Kd.FK (Kd.slice 3 (Kd.int .i64)) _ _ x [.slice A2 x.length c2] from Kd.FK_slice_mk HCx.out.2.1 (Kd.R_F (Kd.R_mono (Kd.R_bound HRx.out) (fun k hk => Nat.le_trans HB1.out.size hk.2.1)))) (Reps.none _ _)); intro va wa hoa hba _ _; have HA := Aside0.mk hoa; have HBA := Aside0.mk hba; clear hoa hba))
  have HB3 := Aside0.mk (below_step HB2.out HBA.out)
  have HB3b := Aside0.mk (show Below w2.heap.size w2 wa from HBA.out)
  clear HBA
  go_loopg [9, 10] ys.length (fun gg s9 s10 wr => ∃ (i : Nat), s10 = .int .i64 i ∧ i ≤ ys.length ∧ ys.length - i ≤ gg ∧ Aside0 (Kd.N (Kd.slice 3 (Kd.int .i64)) 30 wr w2.heap.size (fun k_ => w.heap.size ≤ k_) s9 (x :: rows.take i)) ∧ Aside0 (Below w.heap.size w wr) ∧ Aside0 (Below w2.heap.size w2 wr))
  case atStart => exact ⟨0, rfl, by omega, by omega, HA, HB3, HB3b⟩
  case round =>
    clear HB3 HB3b HA
    obtain ⟨i, rfl, hi, hgg, HA, HB3, HB3b⟩ := hrel
    obtain ⟨Al, cl, rfl⟩ := Kd.N_slice HA.out
    by_cases hlt : i < ys.length
    · have hltd : decide ((i : Int) < (ys.length : Int)) = true := decide_eq_true (by omega)
      have q0 : (i : Int) < (ys.length : Int) := by omega
      have q1 : ys[i]? = some ys[i] := List.getElem?_eq_getElem hlt
      generalize ys[i] = q at q1
      obtain ⟨L9, hL9⟩ : ∃ L9, L9 = x :: rows.take i := ⟨_, rfl⟩
      rw [← hL9] at HA ⊢
      have HL9n := Aside0.mk (show L9.length ≤ 3 from by have := Hn.out; rw [hL9, List.length_cons, List.length_take]; omega)
      have HL9 := Aside0.mk hL9
      clear hL9
      obtain ⟨ad, rfl, hq0, hq1, hq2, hq3⟩ := HQ.out.below HB3.out i q q1
      obtain ⟨y0, y1, y2, y3⟩ := q
      have HIq := Aside0.mk (HI.out i _ q1)
      obtain ⟨z, hz⟩ : ∃ z, z = rows.getD i [] := ⟨_, rfl⟩
      rw [← hz] at HIq
      have HZ := Aside0.mk hz
      have Hq := Aside0.mk (And.intro hq0 (And.intro hq1 (And.intro hq2 hq3)))
      clear hz q1
      go_wp2_with (first
        | (go_at_call 20; (with_reducible refine (g_Interval.calls A0 c0 p y0 y1 y2 y3 z _ (Kd.C_below HCp.out.2.2 HB3b.out) HCp.out.2.1 HIq.out).mono ?_); rintro e w4 ⟨v4, rfl, hR4, hb⟩; have HR4 := Aside0.mk hR4; have HB4 := Aside0.mk hb; clear hR4 hb; obtain ⟨A4, c4, rfl⟩ := Kd.R_slice HR4.out; have HFK4 := Aside0.mk (show Kd.FK (Kd.slice 3 (Kd.int .i64)) w4 (fun k_ => wr.heap.size ≤ k_) z [.slice A4 z.length c4] from Kd.FK_slice_mk (Kd.R_reads' HR4.out).2.1 (Kd.R_F (Kd.R_mono (Kd.R_bound HR4.out) (fun k hk => hk.2.1)))))
        | ((with_reducible refine gate_builtin (b := .append) (xs := #[.tmp 54, .tmp 61]) rfl ?_); at_builtin; refine Kd.N_append (Kd.slice 3 (Kd.int .i64)) (w0 := w2) w2.heap.size rfl (.tmp 54) (.tmp 61) 36 30 (.slice none 0 0) 24 rfl Tryz.underlying36 info30 rfl (by decide) (by omega) (.slice Al L9.length cl) L9 z [.slice A4 z.length c4] (fun k_ => w.heap.size ≤ k_) (fun k_ => wr.heap.size ≤ k_) rfl rfl HFK4.out (fun k hk => ⟨Nat.le_trans HB2.out.size (Nat.le_trans HB3b.out.size hk), fun he => absurd (Kd.N_lt HA.out k he.symm) (by omega)⟩) (fun k hk => Nat.le_trans HB2.out.size (Nat.le_trans (below_step HB3b.out HB4.out).size hk)) (Kd.N_below HA.out HB4.out) (below_step HB3b.out HB4.out) (below_step HB3b.out HB4.out).size (by have := HL9n.out; omega) ?_; intro v5 w5 hN hB hg hat; have HA5 := Aside0.mk hN; have HB5 := Aside0.mk hB; clear hN hB hg hat))
      go_roundg (ys.length - (i + 1))
      case measure => omega
      case rel =>
        refine ⟨i + 1, congrArg _ (w64s (by have := Hn.out; omega)), by omega, Nat.le_refl _, ⟨?_⟩, ⟨below_step HB2.out HB5.out⟩, HB5⟩
        have e1 : rows.take (i + 1) = rows.take i ++ [z] := by
          have hir : i < rows.length := by rw [HRL.out]; exact hlt
          rw [List.take_succ_eq_append_getElem hir, HZ.out, List.getD_eq_getElem?_getD, List.getElem?_eq_getElem hir]; rfl
        rw [e1, ← List.cons_append, ← HL9.out]
        exact HA5.out
    · have hltd : decide ((i : Int) < (ys.length : Int)) = false := decide_eq_false (by omega)
      have hi2 : i = rows.length := by rw [HRL.out]; omega
      have HA2 := HA.out
      rw [hi2, List.take_length] at HA2 ⊢
      have hll : (x :: rows).length = rows.length + 1 := List.length_cons
      obtain ⟨l, hl⟩ : ∃ l, l = x :: rows := ⟨_, rfl⟩
      rw [← hl] at HA2 HC hll ⊢
      have HL := Aside0.mk (Kd.N_reads' HA2)
      clear HA HA2 HI HRx HCx HQ HM hl hll
      go_wp2_with (go_at_call 21; (with_reducible refine (g_Combine.calls kC A0 c0 p Al cl l c [] 3 _ (Glob.below HG.out HB3.out) (Kd.C_below HCp.out.2.2 HB3b.out) HCp.out.2.1 HL.out.2.2 HL.out.2.1 HC.out).mono ?_); rintro e w9 ⟨v9, rfl, hN, hb⟩; have HN9 := Aside0.mk hN; have HL9 := Aside0.mk (Kd.C_below HL.out.2.2 hb); have HP9 := Aside0.mk (Kd.C_below (Kd.C_below HCp.out.2.2 HB3b.out) hb); have HB9 := Aside0.mk (show Below w.heap.size w w9 from below_step HB3.out hb); clear hN hb; obtain ⟨A9, c9, rfl⟩ := Kd.N_slice HN9.out)
      go_ret
      exact ⟨rfl, HB9.out⟩
end Go.Proofs.YtobdccgpbohpiaaGreatDoor
