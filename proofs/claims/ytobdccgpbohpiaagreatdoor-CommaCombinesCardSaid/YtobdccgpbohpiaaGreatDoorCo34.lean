/- Co: a part of the proof. -/
import Derived.Test.YtobdccgpbohpiaaGreatDoorCo33
set_option linter.unusedVariables false
set_option linter.unusedSimpArgs false
namespace Go.Proofs.YtobdccgpbohpiaaGreatDoor
open Go.RowKit Go.Lib F Go.Proofs.YtobdccgpbohpiaaGreatDoorW.PrintWords Go.Proofs.YtobdccgpbohpiaaGreatDoorW.PrintLast Go.Proofs.YtobdccgpbohpiaaGreatDoorW.PrintMore
set_option maxRecDepth 100000 in
set_option maxHeartbeats 16000000 in
theorem combines_main (a0 a1 a2 a3 a4 : Int) (p x : List Int) (Am : Option Addr) (cm : Nat) (ys : List (Int × Int × Int × Int)) (m : Nat) (w : World) (hG : Glob w) (hM : schismalaw12_Make.f a0 a1 a2 a3 a4 = some (p, x)) (hQ : Quads w Am ys) (hn : ys.length ≤ 2) (hm : m ≤ 3)
    (rows : List (List Int)) (hrl : rows.length = ys.length) (hI : ∀ j q, ys[j]? = some q → g_Interval.f p q.1 q.2.1 q.2.2.1 q.2.2.2 = some (rows.getD j [])) (hp : p.length ≤ 1000) (hxl : ∀ r ∈ x :: rows, r.length = p.length)
    (kC : Nat) (R : List (List Int)) (hC : g_Combine.f kC p (x :: rows) (m : Int) = some (R, 0)) (pos : List Int → Bool) (row : Nat → List Int) (hrow : row = rowK m (x :: rows) (List.replicate p.length 0))
    (hS : ∀ t, t < (2 * m + 1) ^ (rows.length + 1) → ∃ k s, monzo_Sign.f k p (row t) = some (s, 0) ∧ decide (s > 0) = pos (row t)) (kE : Nat) (hE : schismalaw16_same.f kE R (wants pos row ((2 * m + 1) ^ (rows.length + 1))) = some true) :
    Calls Tryz.prog 5 #[.agg #[.int .u8 a0, .int .i8 a1, .int .i8 a2, .int .i8 a3, .int .i8 a4], .slice Am ys.length cm, .int .i8 (m : Int)] w fun e w' => e = .returned (.bool true) ∧ Below w.heap.size w w' := by
  have HG := Aside0.mk hG
  have HM := Aside0.mk hM
  have HQ := Aside0.mk hQ
  have HI := Aside0.mk hI
  have HXL := Aside0.mk hxl
  have HC := Aside0.mk hC
  have HS := Aside0.mk hS
  have HE := Aside0.mk hE
  have HRow := Aside0.mk hrow
  have HRL := Aside0.mk hrl
  have Hp := Aside0.mk hp
  have h1d : decide ((ys.length : Int) > 2) = false := decide_eq_false (by omega)
  have h2d : decide ((m : Int) < -1) = false := decide_eq_false (by omega)
  have h3d : decide ((m : Int) > 3) = false := decide_eq_false (by omega)
  have h4d : decide ((m : Int) < 0) = false := decide_eq_false (by omega)
  have hwm : wrap64 (m : Int) = (m : Int) := wrap64_id (by omega)
  have Hn := Aside0.mk hn
  have Hm := Aside0.mk hm
  clear hG hM hQ hI hxl hC hS hE hrow hrl hp hn
  go_enter Tryz.func5, Tryz.ntmps5
  go_wp2_with (first
    | (go_at_call 13; (with_reducible refine (g_known.calls true _ ?sG rfl).mono ?_); (case sG => exact Glob.below HG.out (below_alloc (Below.refl _ _) _)); rintro e w1 ⟨rfl, hb⟩; have bq : w1.heap[w.heap.size]? = some (.cells #[.int .u8 a0, .int .i8 a1, .int .i8 a2, .int .i8 a3, .int .i8 a4] 25 (0, 0)) := (hb.block w.heap.size (by simp only [size_alloc]; omega)).trans (by simp only [heap_alloc]; rw [if_pos trivial]); have hc0 : w1.cell? ⟨w.heap.size, 0, none⟩ = some (.int .u8 a0) := (by simp [World.cell?, bq]); have hc1 : w1.cell? ⟨w.heap.size, 1, none⟩ = some (.int .i8 a1) := (by simp [World.cell?, bq]); have hc2 : w1.cell? ⟨w.heap.size, 2, none⟩ = some (.int .i8 a2) := (by simp [World.cell?, bq]); have hc3 : w1.cell? ⟨w.heap.size, 3, none⟩ = some (.int .i8 a3) := (by simp [World.cell?, bq]); have hc4 : w1.cell? ⟨w.heap.size, 4, none⟩ = some (.int .i8 a4) := (by simp [World.cell?, bq]); clear bq; have HB1 := Aside0.mk (show Below w.heap.size w w1 from below_step (below_alloc (Below.refl _ _) _) hb); clear hb)
    | (go_at_call 19; (with_reducible refine (schismalaw12_Make.calls a0 a1 a2 a3 a4 p x _ HM.out).mono ?_); rintro e w2 ⟨v0, v1, rfl, hV, hR, hb⟩; have HV := Aside0.mk hV; have HRx := Aside0.mk hR; have HB2 := Aside0.mk (show Below w.heap.size w w2 from below_step HB1.out hb); have HS12 := Aside0.mk (Nat.le_trans HB1.out.size hb.size); clear hV hR hb hc0 hc1 hc2 hc3 hc4; obtain ⟨A0, c0, rfl⟩ := Kd.V_slice HV.out; obtain ⟨A2, c2, rfl⟩ := Kd.R_slice HRx.out; have HCp := Aside0.mk (Kd.V_reads' HV.out); have HCx := Aside0.mk (Kd.R_reads' HRx.out))
    | ((with_reducible refine gate_dst (N := 47) rfl ?_); refine Kd.N_lit (Kd.slice 3 (Kd.int .i64)) _ 30 ?hg (N' := 47) ?hd (xs := [x]) (inner := [.slice A2 x.length c2]) (ok := fun k_ => w.heap.size ≤ k_) (okp := fun k_ => w.heap.size ≤ k_) ?hr ?hp (fun _ hk => hk) HB2.out.size (Below.refl _ _) (Nat.le_refl _) (by simp) ?_; (case hd => rfl); (case hg => rfl); (case hr => first | (go_simp; done) | (go_simp; rfl)); (case hp => exact Reps.one (show Kd.FK (Kd.slice 3 (Kd.int .i64)) _ _ x [.slice A2 x.length c2] from Kd.FK_slice_mk HCx.out.2.1 (Kd.R_F (Kd.R_mono (Kd.R_bound HRx.out) (fun k hk => Nat.le_trans HB1.out.size hk.2.1)))) (Reps.none _ _)); intro va wa hoa hba _ _; have HA := Aside0.mk hoa; have HBA := Aside0.mk hba; clear hoa hba))
  have HB3 := Aside0.mk (below_step HB2.out HBA.out)
  have HB3b := Aside0.mk (show Below w2.heap.size w2 wa from HBA.out)
  clear HBA
  go_loopg [9, 10] ys.length (fun gg s9 s10 wr => ∃ (i : Nat), s10 = .int .i64 i ∧ i ≤ ys.length ∧ ys.length - i ≤ gg ∧ Aside0 (Kd.N (Kd.slice 3 (Kd.int .i64)) 30 wr w2.heap.size (fun k_ => w.heap.size ≤ k_) s9 (x :: rows.take i)) ∧ Aside0 (Below w.heap.size w wr) ∧ Aside0 (Below w2.heap.size w2 wr))
  case atStart => exact ⟨0, rfl, by omega, by omega, HA, HB3, HB3b⟩
  case round =>
    clear HB3 HB3b HA
    obtain ⟨i, rfl, hi, hgg, HA, HB3, HB3b⟩ := hrel
    obtain ⟨Al, cl, rfl⟩ := Kd.N_slice HA.out
    by_cases hlt : i < ys.length
    · have hltd : decide ((i : Int) < (ys.length : Int)) = true := decide_eq_true (by omega)
      have q0 : (i : Int) < (ys.length : Int) := by omega
      have q1 : ys[i]? = some ys[i] := List.getElem?_eq_getElem hlt
      generalize ys[i] = q at q1
      obtain ⟨L9, hL9⟩ : ∃ L9, L9 = x :: rows.take i := ⟨_, rfl⟩
      rw [← hL9] at HA ⊢
      have HL9n := Aside0.mk (show L9.length ≤ 3 from by have := Hn.out; rw [hL9, List.length_cons, List.length_take]; omega)
      have HL9 := Aside0.mk hL9
      clear hL9
      obtain ⟨ad, rfl, hq0, hq1, hq2, hq3⟩ := HQ.out.below HB3.out i q q1
      obtain ⟨y0, y1, y2, y3⟩ := q
      have HIq := Aside0.mk (HI.out i _ q1)
      obtain ⟨z, hz⟩ : ∃ z, z = rows.getD i [] := ⟨_, rfl⟩
      rw [← hz] at HIq
      have HZ := Aside0.mk hz
      have Hq := Aside0.mk (And.intro hq0 (And.intro hq1 (And.intro hq2 hq3)))
      clear hz q1
      go_wp2_with (first
        | (go_at_call 20; (with_reducible refine (g_Interval.calls A0 c0 p y0 y1 y2 y3 z _ (Kd.C_below HCp.out.2.2 HB3b.out) HCp.out.2.1 HIq.out).mono ?_); rintro e w4 ⟨v4, rfl, hR4, hb⟩; have HR4 := Aside0.mk hR4; have HB4 := Aside0.mk hb; clear hR4 hb; obtain ⟨A4, c4, rfl⟩ := Kd.R_slice HR4.out; have HFK4 := Aside0.mk (show Kd.FK (Kd.slice 3 (Kd.int .i64)) w4 (fun k_ => wr.heap.size ≤ k_) z [.slice A4 z.length c4] from Kd.FK_slice_mk (Kd.R_reads' HR4.out).2.1 (Kd.R_F (Kd.R_mono (Kd.R_bound HR4.out) (fun k hk => hk.2.1)))))
        | ((with_reducible refine gate_builtin (b := .append) (xs := #[.tmp 54, .tmp 61]) rfl ?_); at_builtin; refine Kd.N_append (Kd.slice 3 (Kd.int .i64)) (w0 := w2) w2.heap.size rfl (.tmp 54) (.tmp 61) 36 30 (.slice none 0 0) 24 rfl Tryz.underlying36 info30 rfl (by decide) (by omega) (.slice Al L9.length cl) L9 z [.slice A4 z.length c4] (fun k_ => w.heap.size ≤ k_) (fun k_ => wr.heap.size ≤ k_) rfl rfl HFK4.out (fun k hk => ⟨Nat.le_trans HB2.out.size (Nat.le_trans HB3b.out.size hk), fun he => absurd (Kd.N_lt HA.out k he.symm) (by omega)⟩) (fun k hk => Nat.le_trans HB2.out.size (Nat.le_trans (below_step HB3b.out HB4.out).size hk)) (Kd.N_below HA.out HB4.out) (below_step HB3b.out HB4.out) (below_step HB3b.out HB4.out).size (by have := HL9n.out; omega) ?_; intro v5 w5 hN hB hg hat; have HA5 := Aside0.mk hN; have HB5 := Aside0.mk hB; clear hN hB hg hat))
      go_roundg (ys.length - (i + 1))
      case measure => omega
      case rel =>
        refine ⟨i + 1, congrArg _ (w64s (by have := Hn.out; omega)), by omega, Nat.le_refl _, ⟨?_⟩, ⟨below_step HB2.out HB5.out⟩, HB5⟩
        have e1 : rows.take (i + 1) = rows.take i ++ [z] := by
          have hir : i < rows.length := by rw [HRL.out]; exact hlt
          rw [List.take_succ_eq_append_getElem hir, HZ.out, List.getD_eq_getElem?_getD, List.getElem?_eq_getElem hir]; rfl
        rw [e1, ← List.cons_append, ← HL9.out]
        exact HA5.out
    · have hltd : decide ((i : Int) < (ys.length : Int)) = false := decide_eq_false (by omega)
      have hi2 : i = rows.length := by rw [HRL.out]; omega
      have HA2 := HA.out
      rw [hi2, List.take_length] at HA2 ⊢
      have hll : (x :: rows).length = rows.length + 1 := List.length_cons
      obtain ⟨l, hl⟩ : ∃ l, l = x :: rows := ⟨_, rfl⟩
      rw [← hl] at HA2 HC HRow HXL hll ⊢
      have HL := Aside0.mk (Kd.N_reads' HA2)
      have Hll := Aside0.mk hll
      clear hl hll
      obtain ⟨n, hnm⟩ : ∃ n : Nat, n = 2 * m + 1 := ⟨_, rfl⟩
      obtain ⟨pw, hpw⟩ : ∃ pw : Nat → Nat, pw = fun j => (2 * m + 1) ^ j := ⟨_, rfl⟩
      have e1 : wrap64 (2 * (m : Int)) = 2 * (m : Int) := wrap64_id (by omega)
      have e2 : wrap64 (2 * (m : Int) + 1) = 2 * (m : Int) + 1 := wrap64_id (by omega)
      have e3 : 2 * (m : Int) + 1 = (n : Int) := by omega
      have HN := Aside0.mk hnm
      have HPW := Aside0.mk hpw
      have HS2 := Aside0.mk (show ∀ t, t < pw (rows.length + 1) → ∃ k s, monzo_Sign.f k p (row t) = some (s, 0) ∧ decide (s > 0) = pos (row t) from by rw [hpw]; exact HS.out)
      have HE2 := Aside0.mk (show schismalaw16_same.f kE R (wants pos row (pw (rows.length + 1))) = some true from by rw [hpw]; exact HE.out)
      clear HS HE hnm hpw
      clear HA HA2 HI HRx HCx HQ HM
      go_wp2_with (go_at_call 21; (with_reducible refine (g_Combine.calls kC A0 c0 p Al cl l (m : Int) R 0 _ (Glob.below HG.out HB3.out) (Kd.C_below HCp.out.2.2 HB3b.out) HCp.out.2.1 HL.out.2.2 HL.out.2.1 HC.out).mono ?_); rintro e w9 ⟨v9, rfl, hN, hb⟩; have HN9 := Aside0.mk hN; have HL9 := Aside0.mk (Kd.C_below HL.out.2.2 hb); have HP9 := Aside0.mk (Kd.C_below (Kd.C_below HCp.out.2.2 HB3b.out) hb); have HB9 := Aside0.mk (show Below w.heap.size w w9 from below_step HB3.out hb); clear hN hb; obtain ⟨A9, c9, rfl⟩ := Kd.N_slice HN9.out)
      have HN9c := Aside0.mk (Kd.N_reads' HN9.out)
      clear HN9 e1 e2 e3 hltd
      go_loopg [14, 15] (rows.length + 1) (fun gg s14 s15 wr => ∃ (j : Nat), s15 = .int .i64 j ∧ s14 = .int .i64 ((pw j : Nat) : Int) ∧ 1 ≤ j ∧ j ≤ rows.length + 1 ∧ rows.length + 1 - j ≤ gg ∧ w9 = wr)
      case atStart => exact ⟨1, rfl, by rw [HPW.out, HN.out]; show _ = Value.int .i64 (((2 * m + 1) ^ 1 : Nat) : Int); rw [Nat.pow_one], by omega, by omega, by omega, rfl⟩
      case round =>
        obtain ⟨j, rfl, rfl, hj1, hj, hgg2, rfl⟩ := hrel
        by_cases hltj : j < rows.length + 1
        · have hjl : j < l.length := by have := Hll.out; omega
          have hltjd : decide ((j : Int) < (l.length : Int)) = true := decide_eq_true (by omega)
          go_wp2
          go_roundg (rows.length + 1 - (j + 1))
          case measure => omega
          case rel =>
            refine ⟨j + 1, congrArg _ (w64s (by have := HRL.out; have := Hn.out; omega)), congrArg _ ?_, by omega, by omega, Nat.le_refl _, rfl⟩
            have h1 := HRL.out
            have h2 := Hn.out
            have h3 := Hm.out
            have h4 : (2 * m + 1) ^ (j + 1) ≤ 343 := by
              calc (2 * m + 1) ^ (j + 1) ≤ 7 ^ (j + 1) := Nat.pow_le_pow_left (by omega) _
                _ ≤ 7 ^ 3 := Nat.pow_le_pow_right (by omega) (by omega)
            have h5 : ((pw j : Nat) : Int) * (n : Int) = ((pw (j + 1) : Nat) : Int) := by rw [HPW.out, HN.out, ← Int.natCast_mul]; rfl
            have h6 : pw (j + 1) ≤ 343 := by rw [HPW.out]; exact h4
            rw [h5, wrap64_id (by omega)]
        · have hjl : ¬ j < l.length := by have := Hll.out; omega
          have hltjd : decide ((j : Int) < (l.length : Int)) = false := decide_eq_false (by omega)
          have hj3 : j = rows.length + 1 := by omega
          have hT : pw (rows.length + 1) ≤ 343 := by
            rw [HPW.out]
            show (2 * m + 1) ^ (rows.length + 1) ≤ 343
            have h1 := HRL.out
            have h2 := Hn.out
            have h3 := Hm.out
            calc (2 * m + 1) ^ (rows.length + 1) ≤ 7 ^ (rows.length + 1) := Nat.pow_le_pow_left (by omega) _
              _ ≤ 7 ^ 3 := Nat.pow_le_pow_right (by omega) (by omega)
          rw [← hj3] at hT HS2 HE2
          generalize pw j = tot at hT HS2 HE2 ⊢
          have HT := Aside0.mk hT
          clear hT hgg2 hj hj1 hj3 hltj
          go_wp2
          go_loopg [16, 17] tot (fun gg s16 s17 wr => ∃ (k : Nat) (Aw : Option Addr) (cw : Nat), s17 = .int .i64 k ∧ k ≤ tot ∧ tot - k ≤ gg ∧ s16 = .slice Aw (wants pos row k).length cw ∧ Aside0 ((wants pos row k).length ≤ cw) ∧ Aside0 (Kd.C (Kd.slice 3 (Kd.int .i64)) wr Aw (wants pos row k).length (wants pos row k)) ∧ Aside0 (Below w9.heap.size w9 wr))
          case atStart => exact ⟨0, none, 0, rfl, by omega, by omega, rfl, ⟨Nat.le_refl _⟩, ⟨Kd.C_nil _ _⟩, ⟨Below.refl _ _⟩⟩
          case round =>
            obtain ⟨k, Aw, cw, rfl, hk, hgg3, rfl, HWl, HWC, HBk⟩ := hrel
            by_cases hltk : k < tot
            · have hltkd : decide ((k : Int) < (tot : Int)) = true := decide_eq_true (by omega)
              obtain ⟨W, hW⟩ : ∃ W, W = wants pos row k := ⟨_, rfl⟩
              rw [← hW] at HWl HWC ⊢
              have HW := Aside0.mk hW
              have HWn := Aside0.mk (show W.length ≤ k from by rw [hW]; exact wants_length _ _ _)
              clear hW
              obtain ⟨wk, hwk⟩ : ∃ wk, wk = wr := ⟨_, rfl⟩
              subst hwk
              go_wp2_with ((with_reducible refine gate_dst (N := 101) rfl ?_); refine Kd.R_make (Kd.int .i64) _ 3 rfl (N := 101) rfl 30 _ _ rfl (p.length : Int) rfl rfl Tryz.underlying30 (.int .i64 0) 8 info3 rfl (by decide) (by omega) 0 (ok := fun _ => True) (okp := fun _ => True) rfl (fun _ hk => hk) trivial (by omega) (by have := Hp.out; omega) (Below.refl _ _) (Nat.le_refl _) ?_; intro vz wz hoz hbz _ _; rw [Int.toNat_natCast] at hoz; obtain ⟨Az, cz, ez⟩ := Kd.R_slice hoz; rw [List.length_replicate] at ez; subst ez; have HZ := Aside0.mk hoz; have HBZ := Aside0.mk hbz; clear hoz hbz)
              go_loopg [19, 20] (rows.length + 1) (fun gg s19 s20 w8 => ∃ (i2 rest : Nat) (zi : List Int), s20 = .int .i64 i2 ∧ s19 = .int .i64 rest ∧ i2 ≤ rows.length + 1 ∧ rows.length + 1 - i2 ≤ gg ∧ rest ≤ 343 ∧ zi.length = p.length ∧ Aside0 (rowK m (l.drop i2) zi rest = row k) ∧ Aside0 (Kd.R (Kd.int .i64) 3 w8 wk.heap.size (fun _ => True) (.slice Az p.length cz) zi) ∧ Aside0 (Below wk.heap.size wk w8))
              case atStart => exact ⟨0, k, List.replicate p.length 0, rfl, rfl, by omega, by omega, by have := HT.out; omega, List.length_replicate, ⟨by rw [HRow.out]; rfl⟩, HZ, HBZ⟩
              case round =>
                clear HZ HBZ
                obtain ⟨i2, rest, zi, rfl, rfl, hi2b, hgg4, hrest, hzi, HK, HZ, HBZ⟩ := hrel
                by_cases hlt2 : i2 < rows.length + 1
                · have hil2 : i2 < l.length := by have := Hll.out; omega
                  have hlt2d : decide ((i2 : Int) < (l.length : Int)) = true := decide_eq_true (by omega)
                  have q10 : (i2 : Int) < (l.length : Int) := by omega
                  obtain ⟨ad, Ax, cx, eax, hx0, hlx, hCx⟩ := at_L1 HL9.out (i2 : Int) (by omega) q10
                  cases eax
                  obtain ⟨xs, hxs⟩ : ∃ xs, xs = rd_L1 l (i2 : Int) := ⟨_, rfl⟩
                  simp only [Int.toNat_natCast] at hx0
                  rw [← hxs] at hx0 hlx hCx
                  have hxl : xs = l[i2] := by rw [hxs]; exact rdL1_at hil2
                  have hxlen : xs.length = p.length := HXL.out _ (by rw [hxl]; exact List.getElem_mem hil2)
                  have hK := HK.out
                  rw [List.drop_eq_getElem_cons hil2, ← hxl, rowK, ← HN.out] at hK
                  obtain ⟨md, hmd⟩ : ∃ md : Nat, md = rest % n := ⟨_, rfl⟩
                  obtain ⟨dv, hdv⟩ : ∃ dv : Nat, dv = rest / n := ⟨_, rfl⟩
                  rw [← hmd, ← hdv] at hK
                  have hnp : 1 ≤ n := by have := HN.out; omega
                  have hmd2 : md < n := by rw [hmd]; exact Nat.mod_lt _ hnp
                  have hdv2 : dv ≤ 343 := by rw [hdv]; exact Nat.le_trans (Nat.div_le_self _ _) hrest
                  have hnb : n ≤ 7 := by have := HN.out; have := Hm.out; omega
                  obtain ⟨kk, hkk⟩ : ∃ kk : Int, kk = (md : Int) - (m : Int) := ⟨_, rfl⟩
                  have hmod : Int.tmod (rest : Int) (n : Int) = (md : Int) := by rw [hmd]; rfl
                  have hdiv : Int.tdiv (rest : Int) (n : Int) = (dv : Int) := by rw [hdv]; rfl
                  have hsub : wrap64 ((md : Int) - (m : Int)) = kk := by rw [hkk, wrap64_id (by have := Hm.out; omega)]
                  have hdw : wrap64 (dv : Int) = (dv : Int) := wrap64_id (by omega)
                  rw [← hkk] at hK
                  have hn0 : ¬ (n : Int) = 0 := by omega
                  have hn1 : ((n : Int) == 0) = false := beq_eq_false_iff_ne.mpr hn0
                  have hn2 : ¬ n = 0 := by omega
                  have HK2 := Aside0.mk hK
                  have HX0 := Aside0.mk hx0
                  have HLx := Aside0.mk hlx
                  have HCx2 := Aside0.mk hCx
                  have HXn := Aside0.mk hxlen
                  have HZi := Aside0.mk hzi
                  have HDv := Aside0.mk hdv2
                  have HIL := Aside0.mk hil2
                  clear hK hx0 hlx hCx hxlen hzi hdv2 hmd2 hdv hmd hnb hnp hxs hxl hkk HK
                  go_wp2
                  rw [hsub, hdw]
                  clear hmod hdiv hsub hn0 hn1 hn2 hdw
                  go_loopg [22] p.length (fun gg s22 w8 => ∃ (i8 : Nat), s22 = .int .i64 i8 ∧ i8 ≤ p.length ∧ p.length - i8 ≤ gg ∧ Aside0 (Kd.R (Kd.int .i64) 3 w8 wk.heap.size (fun _ => True) (.slice Az p.length cz) ((zrow xs zi kk).take i8 ++ zi.drop i8)) ∧ Aside0 (Below wk.heap.size wk w8))
                  case atStart => exact ⟨0, rfl, by omega, by omega, ⟨by rw [List.take_zero, List.nil_append, List.drop_zero]; exact HZ.out⟩, HBZ⟩
                  case round =>
                    clear HZ HBZ
                    obtain ⟨i8, rfl, hi8, hgg8, HZ, HBZ⟩ := hrel
                    by_cases hlt8 : i8 < p.length
                    · have hlt8d : decide ((i8 : Int) < (p.length : Int)) = true := decide_eq_true (by omega)
                      have hzl := zrow_len xs zi kk i8 (by have := HZi.out; omega)
                      have hzl2 : ((zrow xs zi kk).take i8 ++ zi.drop i8).length = p.length := by rw [hzl]; exact HZi.out
                      obtain ⟨g8, c8, e8, gb8, gl8, cells8, hcells8⟩ := Kd.R_form HZ.out (by omega)
                      injection e8 with e8a e8b e8c
                      clear e8b
                      subst e8a e8c
                      obtain ⟨hz1, hz2⟩ := Kd.R_celln 0 HZ.out (i8 : Int) (by omega) (by omega)
                      have hz3 : wr.cell? ⟨g8, i8, none⟩ = some (.int .i64 (rd zi (i8 : Int))) := by
                        rw [← zrow_read xs zi kk i8 (by have := HZi.out; omega)]
                        exact hz1
                      rw [Int.toNat_natCast] at hz2
                      obtain ⟨adx, ex8, hxc⟩ := Kd.at_int (Kd.C_below HCx2.out (below_step HBk.out HBZ.out)) (i8 : Int) (by omega) (by have := HXn.out; omega)
                      cases ex8
                      simp only [Int.toNat_natCast] at hxc
                      have hx0r : wr.cell? (ad.add i2) = some (.slice (some adx) xs.length cx) := ((below_step HBk.out HBZ.out).cell (World.block_lt_of_cell? w9 _ HX0.out)).trans HX0.out
                      have q8 : (i8 : Int) < (p.length : Int) := by omega
                      have q9 : (i8 : Int) < (xs.length : Int) := by have := HXn.out; omega
                      have HGB := Aside0.mk gb8
                      have HP := Aside0.mk (fun W (h : Kd.R (Kd.int .i64) 3 W wk.heap.size (fun _ => True) (.slice (some ⟨g8, 0, none⟩) p.length cz) ((zrow xs zi kk).take i8 ++ zi.drop i8)) => Kd.R_putg h (i8 : Int) (wrap64 (rd zi (i8 : Int) + wrap64 (kk * rd xs (i8 : Int)))))
                      clear hzl hzl2 hz1 gl8 hcells8 gb8
                      have hmo : Tryz.prog.follows Departure.mixedOrders = true := by kernel_rfl
                      go_wp2_with fail
                      go_region_o
                      go_wp2
                      go_roundg (p.length - (i8 + 1))
                      case measure => omega
                      case rel =>
                        have hp := (HP.out _ HZ.out).1
                        rw [Int.toNat_natCast, zrow_step xs zi _ i8 (by have := HZi.out; omega)] at hp
                        exact ⟨i8 + 1, congrArg _ (w64s (by have := Hp.out; omega)), by omega, Nat.le_refl _, ⟨Kd.R_drew hp⟩, ⟨below_drew1 (HBZ.out.setCell (by exact HGB.out) _)⟩⟩
                    · have hlt8d : decide ((i8 : Int) < (p.length : Int)) = false := decide_eq_false (by omega)
                      have hi8e : i8 = p.length := by omega
                      have hz9 : (zrow xs zi kk).take i8 ++ zi.drop i8 = zrow xs zi kk := by
                        rw [hi8e, List.drop_eq_nil_of_le (by rw [HZi.out]; exact Nat.le_refl _), List.append_nil, List.take_of_length_le (by rw [zrow_length, HZi.out]; exact Nat.le_refl _)]
                      have HZ2 := HZ.out
                      rw [hz9] at HZ2
                      have HZ3 := Aside0.mk HZ2
                      clear HZ2 hz9 HZ hi8e
                      go_wp2
                      go_roundg (rows.length + 1 - (i2 + 1))
                      case measure => have := Hll.out; have := HIL.out; omega
                      case rel => exact ⟨i2 + 1, dv, zrow xs zi kk, congrArg _ (w64s (by have := HRL.out; have := Hn.out; have := Hll.out; have := HIL.out; omega)), rfl, by have := Hll.out; have := HIL.out; omega, Nat.le_refl _, HDv.out, by rw [zrow_length]; exact HZi.out, HK2, HZ3, HBZ⟩
                · have hil2 : ¬ i2 < l.length := by have := Hll.out; omega
                  have hlt2d : decide ((i2 : Int) < (l.length : Int)) = false := decide_eq_false (by omega)
                  have hK := HK.out
                  rw [List.drop_eq_nil_of_le (by omega), rowK] at hK
                  subst hK
                  have Hrl := Aside0.mk hzi
                  have HZ2 := HZ.out
                  rw [← hzi] at HZ2
                  have HZc := Aside0.mk (Kd.R_reads' HZ2)
                  obtain ⟨kS, sg, hsg, hpos⟩ := HS2.out k hltk
                  have HSg := Aside0.mk hsg
                  obtain ⟨kI, hIns⟩ := insert_ev W (row k) (by have := HWn.out; have := HT.out; omega) (by have := Hp.out; omega)
                  have HIns := Aside0.mk (hIns kI (Nat.le_refl _))
                  have HBg := Aside0.mk (show Below w.heap.size w wr from below_step (below_step HB9.out HBk.out) HBZ.out)
                  have HPz := Aside0.mk (Kd.C_below HP9.out (below_step HBk.out HBZ.out))
                  clear HZ2 HZ hsg hIns hzi HK
                  by_cases hs : sg > 0
                  · have hsd : decide (sg > 0) = true := decide_eq_true hs
                    rw [hsd] at hpos
                    have hw1 : wants pos row (k + 1) = insC (row k) W := by rw [wants, if_pos hpos.symm, ← HW.out]
                    have HW1 := Aside0.mk hw1
                    clear hw1 hpos
                    go_wp2_with (first
                      | (go_at_call 22; refine calls_of_args (args' := #[.slice A0 p.length c0, .slice Az (row k).length cz]) (by rw [Hrl.out]) ?_; (with_reducible refine (monzo_Sign.calls kS A0 c0 p Az cz (row k) sg 0 _ (Glob.below HG.out HBg.out) HPz.out HCp.out.2.1 HZc.out.2.2 HZc.out.2.1 HSg.out).mono ?_); rintro e w11 ⟨rfl, hb⟩; have HB11 := Aside0.mk (show Below wk.heap.size wk w11 from below_step HBZ.out hb); have HCW := Aside0.mk (Kd.C_below HWC.out HB11.out); have HVW := Aside0.mk (show Kd.V (Kd.slice 3 (Kd.int .i64)) 30 w11 w11.heap.size (fun k_ => k_ < w11.heap.size) (.slice Aw W.length cw) W from Kd.V_mk HWl.out (Kd.C_F (Kd.heap_slice 3 (Kd.heap_int .i64)) HCW.out)); have HVZ := Aside0.mk (show Kd.V (Kd.int .i64) 3 w11 w11.heap.size (fun k_ => k_ < w11.heap.size) (.slice Az (row k).length cz) (row k) from Kd.V_mk HZc.out.2.1 (Kd.C_F (Kd.heap_int .i64) (Kd.C_below HZc.out.2.2 hb))); clear hb)
                      | (go_at_call 23; refine calls_of_args (args' := #[.slice Aw W.length cw, .slice Az (row k).length cz]) (by rw [Hrl.out]) ?_; (with_reducible refine (schismalaw16_insert.calls kI (fun k_ => k_ < w11.heap.size) Aw cw W (fun k_ => k_ < w11.heap.size) Az cz (row k) (insC (row k) W) _ HVW.out HVZ.out HIns.out).mono ?_); rintro e w12 ⟨v12, rfl, hV, hb⟩; have HV12 := Aside0.mk hV; have HB12 := Aside0.mk hb; clear hV hb; obtain ⟨A12, c12, rfl⟩ := Kd.V_slice HV12.out))
                    go_roundg (tot - (k + 1))
                    case measure => omega
                    case rel => exact ⟨k + 1, A12, c12, congrArg _ (w64s (by have := HT.out; omega)), by omega, Nat.le_refl _, by rw [HW1.out], ⟨by rw [HW1.out]; exact (Kd.V_reads' HV12.out).2.1⟩, ⟨by rw [HW1.out]; exact (Kd.V_reads' HV12.out).2.2⟩, ⟨below_step (below_step HBk.out HB11.out) HB12.out⟩⟩
                  · have hsd : decide (sg > 0) = false := decide_eq_false hs
                    rw [hsd] at hpos
                    have hw1 : wants pos row (k + 1) = W := by rw [wants, if_neg (by rw [← hpos]; decide), ← HW.out]
                    have HW1 := Aside0.mk hw1
                    clear hw1 hpos
                    go_wp2_with (go_at_call 22; refine calls_of_args (args' := #[.slice A0 p.length c0, .slice Az (row k).length cz]) (by rw [Hrl.out]) ?_; (with_reducible refine (monzo_Sign.calls kS A0 c0 p Az cz (row k) sg 0 _ (Glob.below HG.out HBg.out) HPz.out HCp.out.2.1 HZc.out.2.2 HZc.out.2.1 HSg.out).mono ?_); rintro e w11 ⟨rfl, hb⟩; have HB11 := Aside0.mk (show Below wk.heap.size wk w11 from below_step HBZ.out hb); have HCW := Aside0.mk (Kd.C_below HWC.out HB11.out); have HVW := Aside0.mk (show Kd.V (Kd.slice 3 (Kd.int .i64)) 30 w11 w11.heap.size (fun k_ => k_ < w11.heap.size) (.slice Aw W.length cw) W from Kd.V_mk HWl.out (Kd.C_F (Kd.heap_slice 3 (Kd.heap_int .i64)) HCW.out)); have HVZ := Aside0.mk (show Kd.V (Kd.int .i64) 3 w11 w11.heap.size (fun k_ => k_ < w11.heap.size) (.slice Az (row k).length cz) (row k) from Kd.V_mk HZc.out.2.1 (Kd.C_F (Kd.heap_int .i64) (Kd.C_below HZc.out.2.2 hb))); clear hb)
                    go_roundg (tot - (k + 1))
                    case measure => omega
                    case rel => exact ⟨k + 1, Aw, cw, congrArg _ (w64s (by have := HT.out; omega)), by omega, Nat.le_refl _, by rw [HW1.out], ⟨by rw [HW1.out]; exact HWl.out⟩, ⟨by rw [HW1.out]; exact HCW.out⟩, ⟨below_step HBk.out HB11.out⟩⟩
            · have hltkd : decide ((k : Int) < (tot : Int)) = false := decide_eq_false (by omega)
              have hk2 : k = tot := by omega
              subst hk2
              go_wp2_with (go_at_call 16; (with_reducible refine (schismalaw16_same.calls kE A9 c9 R Aw cw (wants pos row k) true _ (Kd.C_below HN9c.out.2.2 HBk.out) HN9c.out.2.1 HWC.out HWl.out HE2.out).mono ?_); rintro e w13 ⟨rfl, hd⟩; have HD := Aside0.mk hd.below; clear hd)
              go_ret
              exact ⟨rfl, below_step (below_step HB9.out HBk.out) HD.out⟩
end Go.Proofs.YtobdccgpbohpiaaGreatDoor
