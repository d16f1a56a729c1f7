/- Ch: a part of the proof. -/
import Derived.Shelf.RegionOpenPlain
import Derived.Test.YtobdccgpbohpiaaGreatDoorCh10
import Derived.Test.YtobdccgpbohpiaaGreatDoorCh27
import Derived.Test.YtobdccgpbohpiaaGreatDoorCh29
set_option linter.unusedVariables false
set_option linter.unusedSimpArgs false
namespace Go.Proofs.YtobdccgpbohpiaaGreatDoor
open Go.RowKit Go.Lib F Go.Proofs.YtobdccgpbohpiaaGreatDoorW.PrintWords Go.Proofs.YtobdccgpbohpiaaGreatDoorW.PrintLast Go.Proofs.YtobdccgpbohpiaaGreatDoorW.PrintMore
theorem w64s {i : Nat} (h : i ≤ 1000000) : wrap64 ((i : Int) + 1) = ((i + 1 : Nat) : Int) := by rw [wrap64_id (by omega)]; rfl
theorem w64t {t m : Nat} (h : t ≤ 1000000) (h2 : m ≤ 1000000) : wrap64 ((t : Int) - (m : Int) + 1) = ((t + 1 : Nat) : Int) - (m : Int) := by rw [wrap64_id (by omega)]; omega
theorem zrow_step (x y : List Int) (k : Int) (i : Nat) (hi : i < y.length) : ((zrow x y k).take i ++ y.drop i).set i (wrap64 (rd y i + wrap64 (k * rd x i))) = (zrow x y k).take (i + 1) ++ y.drop (i + 1) := by
  have hl := zrow_length x y k
  have ht : ((zrow x y k).take i).length = i := by rw [List.length_take]; omega
  rw [List.set_append_right _ _ (by omega), ht, Nat.sub_self, List.drop_eq_getElem_cons hi, List.set_cons_zero, List.take_succ_eq_append_getElem (by omega), List.append_assoc]
  have h2 : (zrow x y k)[i]'(by omega) = wrap64 (rd y i + wrap64 (k * rd x i)) := by simp [zrow]
  rw [h2]; rfl
theorem zrow_read (x y : List Int) (k : Int) (i : Nat) (hi : i < y.length) : rd ((zrow x y k).take i ++ y.drop i) (i : Int) = rd y (i : Int) := by
  have hl := zrow_length x y k
  have ht : ((zrow x y k).take i).length = i := by rw [List.length_take]; omega
  rw [rd_nat, rd_nat, List.getD_eq_getElem?_getD, List.getD_eq_getElem?_getD, List.getElem?_append_right (by omega), ht, Nat.sub_self, List.getElem?_drop, Nat.add_zero]
theorem zrow_len (x y : List Int) (k : Int) (i : Nat) (hi : i ≤ y.length) : ((zrow x y k).take i ++ y.drop i).length = y.length := by
  have hl := zrow_length x y k
  rw [List.length_append, List.length_take, List.length_drop]; omega
def g_Combine.f (k : Nat) (p : List Int) (l : List (List Int)) (most : Int) : Option (List (List Int) × Int) :=
  (monzo_CheckAll.f k p l).bind fun e => if e = 0 then (if most < 0 then some ([], 3) else if cntOk most l.length 1 = true then
    (if ((l.all fun x => decide (x.length = p.length)) && decide (p.length ≤ 1000) && decide (l.length ≤ 1000)) = true then
      (filtC k p (allC most.toNat p.length l)).bind fun o => match o with
        | none => some ([], 4)
        | some out => (g_sort_Row.f out).bind fun s => (g_compact_Row.f s).bind fun r => some (r, 0)
    else none) else some ([], 4)) else some ([], e)
theorem filtC_mono (p : List Int) (k : Nat) : ∀ (l : List (List Int)) (r : Option (List (List Int))), filtC k p l = some r → filtC (k + 1) p l = some r
  | [], r, h => h
  | x :: t, r, h => by
    rw [filtC] at h ⊢
    obtain ⟨s, hs, h⟩ := Option.bind_eq_some_iff.1 h
    rw [monzo_Sign.mono _ _ _ _ hs, Option.bind_some]
    split at h
    · rename_i h0
      rw [if_pos h0]
      obtain ⟨o, ho, rfl⟩ := Option.map_eq_some_iff.1 h
      rw [filtC_mono p k t o ho]; rfl
    · rename_i h0
      rw [if_neg h0]; exact h
theorem g_Combine.mono : ∀ (a0 : List Int) (a1 : List (List Int)) (a2 : Int) (k : Nat), LeO (g_Combine.f k a0 a1 a2) (g_Combine.f (k + 1) a0 a1 a2) := by
  intro p l m k r h
  unfold g_Combine.f at h ⊢
  obtain ⟨e, he, h⟩ := Option.bind_eq_some_iff.1 h
  rw [monzo_CheckAll.mono _ _ _ _ he, Option.bind_some]
  split at h
  · rename_i h0
    rw [if_pos h0]
    split at h
    · rename_i h1
      rw [if_pos h1]; exact h
    · rename_i h1
      rw [if_neg h1]
      split at h
      · rename_i h2
        rw [if_pos h2]
        split at h
        · rename_i h3
          rw [if_pos h3]
          obtain ⟨o, ho, h⟩ := Option.bind_eq_some_iff.1 h
          rw [filtC_mono _ _ _ _ ho]; exact h
        · cases h
      · rename_i h2
        rw [if_neg h2]; exact h
  · rename_i h0
    rw [if_neg h0]; exact h
set_option maxRecDepth 100000 in
set_option maxHeartbeats 8000000 in
theorem g_Combine.calls (k : Nat) (A0 : Option Addr) (c0 : Nat) (l0 : List Int) (A1 : Option Addr) (c1 : Nat) (l1 : List (List Int)) (a2 : Int) (r1 : List (List Int)) (r2 : Int) (w : World) (hG : Glob w) (hr0 : Kd.C (Kd.int .i64) w A0 l0.length l0) (hc0 : l0.length ≤ c0) (hr1 : Kd.C (Kd.slice 3 (Kd.int .i64)) w A1 l1.length l1) (hc1 : l1.length ≤ c1) (h : g_Combine.f k l0 l1 a2 = some (r1, r2)) :
    Calls Tryz.prog 21 #[.slice A0 l0.length c0, .slice A1 l1.length c1, .int .i64 a2] w fun e w' => ∃ v0_ : Value, e = .returned (.tuple #[v0_, .int .i64 r2]) ∧ Kd.N (Kd.slice 3 (Kd.int .i64)) 30 w' w.heap.size (fun k_ => (w.heap.size ≤ k_)) v0_ r1 ∧ Below w.heap.size w w' := by
  unfold g_Combine.f at h
  replace h := Option.bind_eq_some_iff.1 h
  obtain ⟨e0, hE, h⟩ := h
  have HE := Aside0.mk hE
  have HG := Aside0.mk hG
  have HR0 := Aside0.mk hr0
  have HR1 := Aside0.mk hr1
  have HC0 := Aside0.mk hc0
  have HC1 := Aside0.mk hc1
  clear hE hG hr0 hr1 hc0 hc1
  by_cases he : e0 = 0
  · rw [if_pos he] at h
    subst he
    by_cases hneg : a2 < 0
    · rw [if_pos hneg] at h
      obtain ⟨rfl, rfl⟩ := Prod.mk.inj (Option.some.inj h)
      have hnegd : decide (a2 < 0) = true := decide_eq_true hneg
      go_enter Tryz.func21, Tryz.ntmps21
      go_wp2_with (go_at_call 24; (with_reducible refine (monzo_CheckAll.calls k A0 c0 l0 A1 c1 l1 0 _ HR0.out HC0.out HR1.out HC1.out HE.out).mono ?_); rintro e w' ⟨rfl, hd⟩)
      go_ret2
      exact ⟨_, rfl, Kd.N_nil _ _ _ _ _, hd.below⟩
    · rw [if_neg hneg] at h
      obtain ⟨m, rfl⟩ := Int.eq_ofNat_of_zero_le (show 0 ≤ a2 by omega)
      have hnegd : decide ((m : Int) < 0) = false := decide_eq_false hneg
      have HH := Aside0.mk h
      have HL : Aside0 (l1.length ≤ 9223372036854775807) := ⟨HR1.out.2.1⟩
      clear h hneg
      go_enter Tryz.func21, Tryz.ntmps21
      go_wp2_with (go_at_call 24; (with_reducible refine (monzo_CheckAll.calls k A0 c0 l0 A1 c1 l1 0 _ HR0.out HC0.out HR1.out HC1.out HE.out).mono ?_); rintro e w' ⟨rfl, hd⟩; have HB := Aside0.mk hd.below; clear hd)
      go_loopg [9, 34] l1.length (fun gg s9 s34 wr => ∃ (i c : Nat), s9 = .int .i64 c ∧ s34 = .int .i64 i ∧ i ≤ l1.length ∧ l1.length - i ≤ gg ∧ c ≤ 10000 ∧ Aside0 (cntOk (m : Int) l1.length 1 = cntOk (m : Int) (l1.length - i) (c : Int)) ∧ Aside0 (Below w.heap.size w wr))
      case atStart => exact ⟨0, 1, rfl, rfl, by omega, by omega, by omega, ⟨rfl⟩, HB⟩
      case round =>
        clear HB
        obtain ⟨i, c, rfl, rfl, hi, hgg, hc, HK, HB⟩ := hrel
        by_cases hlt : i < l1.length
        · have hltd : decide ((i : Int) < (l1.length : Int)) = true := decide_eq_true (by omega)
          have hK := HK.out
          obtain ⟨n', hn'⟩ : ∃ n', l1.length - i = n' + 1 := ⟨l1.length - i - 1, by omega⟩
          rw [hn', cntOk] at hK
          obtain ⟨c', hc'⟩ : ∃ c' : Int, c' = (c : Int) * (2 * (m : Int) + 1) := ⟨_, rfl⟩
          rw [← hc'] at hK
          by_cases hbig : (m : Int) > 10000
          · have hbd : decide ((m : Int) > 10000) = true := decide_eq_true hbig
            rw [if_pos (.inl hbig)] at hK
            rw [hK] at HH
            clear hK hc' HK hn' hbig
            go_wp2
            go_ret2
            have H3 := HH.out
            rw [if_neg (by decide)] at H3
            obtain ⟨rfl, rfl⟩ := Prod.mk.inj (Option.some.inj H3)
            exact ⟨_, rfl, Kd.N_nil _ _ _ _ _, HB.out⟩
          · have hbd : decide ((m : Int) > 10000) = false := decide_eq_false hbig
            have e1 : wrap64 (2 * (m : Int)) = 2 * (m : Int) := wrap64_id (by omega)
            have e2 : wrap64 (2 * (m : Int) + 1) = 2 * (m : Int) + 1 := wrap64_id (by omega)
            have e3 : wrap64 ((c : Int) * (2 * (m : Int) + 1)) = c' := by
              have h1 : (c : Int) * (2 * (m : Int) + 1) ≤ 10000 * 20001 := Int.mul_le_mul (by omega) (by omega) (by omega) (by omega)
              have h2 : 0 ≤ (c : Int) * (2 * (m : Int) + 1) := Int.mul_nonneg (by omega) (by omega)
              rw [hc', wrap64_id (by omega)]
            by_cases hbig2 : c' > 10000
            · have hbd2 : decide (c' > 10000) = true := decide_eq_true hbig2
              rw [if_pos (.inr hbig2)] at hK
              rw [hK] at HH
              clear hK
              have HC' := Aside0.mk hc'
              clear hc' HK hn' hbig hbig2
              go_wp2
              go_ret2
              have H3 := HH.out
              rw [if_neg (by decide)] at H3
              obtain ⟨rfl, rfl⟩ := Prod.mk.inj (Option.some.inj H3)
              exact ⟨_, rfl, Kd.N_nil _ _ _ _ _, HB.out⟩
            · have hbd2 : decide (c' > 10000) = false := decide_eq_false hbig2
              rw [if_neg (fun h => h.elim hbig hbig2)] at hK
              have HK2 := Aside0.mk hK
              have HC' := Aside0.mk hc'
              have HN := Aside0.mk hn'
              have HBig := Aside0.mk hbig2
              clear hK HK hc' hn' hbig hbig2
              go_wp2
              go_roundg (l1.length - (i + 1))
              case measure => have := HN.out; omega
              case rel =>
                have h5 := HC'.out
                have h6 := HBig.out
                have h7 : 0 ≤ (c : Int) * (2 * (m : Int) + 1) := Int.mul_nonneg (by omega) (by omega)
                have h8 := HN.out
                have h9 : c' = ((c'.toNat : Nat) : Int) := by omega
                refine ⟨i + 1, c'.toNat, ?_, ?_, by omega, Nat.le_refl _, by omega, ⟨?_⟩, HB⟩
                · rw [← h9]
                · congr 1
                  have := HL.out
                  rw [wrap64_id (by omega)]; omega
                · rw [HK2.out, ← h9]
                  congr 1
                  omega
        · have hltd : decide ((i : Int) < (l1.length : Int)) = false := decide_eq_false (by omega)
          have hcnt : cntOk (m : Int) l1.length 1 = true := by
            rw [HK.out, show l1.length - i = 0 by omega]; rfl
          have h := HH.out
          rw [if_pos hcnt, Int.toNat_natCast] at h
          by_cases hgd : ((l1.all fun x => decide (x.length = l0.length)) && decide (l0.length ≤ 1000) && decide (l1.length ≤ 1000)) = true
          · rw [if_pos hgd] at h
            have HF := Aside0.mk h
            clear h HH
            rw [Bool.and_eq_true, Bool.and_eq_true] at hgd
            obtain ⟨⟨g1, g2⟩, g3⟩ := hgd
            have hp1 := of_decide_eq_true g2
            have hl1 := of_decide_eq_true g3
            have HRows := Aside0.mk (show ∀ j, j < l1.length → (l1.getD j []).length = l0.length from fun j hj => by
              rw [List.getD_eq_getElem?_getD, List.getElem?_eq_getElem hj]
              exact of_decide_eq_true (List.all_eq_true.1 g1 _ (List.getElem_mem hj)))
            have HCnt := Aside0.mk hcnt
            clear g1 g2 g3 hcnt HK HL
            go_wp2_with (first
              | ((with_reducible refine gate_dst (N := 54) rfl ?_); refine Kd.R_make (Kd.int .i64) _ 3 rfl (N := 54) rfl 30 _ _ rfl (l0.length : Int) rfl rfl Tryz.underlying30 (.int .i64 0) 8 info3 rfl (by decide) (by omega) 0 (ok := fun _ => True) (okp := fun _ => True) rfl (fun _ hk => hk) trivial (by omega) (by omega) (Below.refl _ _) (Nat.le_refl _) ?_; intro vz wz hoz hbz _ _; rw [Int.toNat_natCast] at hoz; obtain ⟨Az, cz, ez⟩ := Kd.R_slice hoz; have HZ := Aside0.mk hoz; have HBZ := Aside0.mk hbz; clear hoz hbz; subst ez)
              | ((with_reducible refine gate_dst (N := 55) rfl ?_); refine Kd.N_lit (Kd.slice 3 (Kd.int .i64)) _ 30 ?hg (N' := 55) ?hd (xs := [List.replicate l0.length (0 : Int)]) (inner := [.slice Az (List.replicate l0.length (0 : Int)).length cz]) (ok := fun k_ => w.heap.size ≤ k_) (okp := fun k_ => w.heap.size ≤ k_) ?hr ?hp (fun _ hk => hk) (Nat.le_trans HB.out.size HBZ.out.size) (Below.refl _ _) (Nat.le_refl _) (by simp) ?_; (case hd => rfl); (case hg => rfl); (case hr => first | (go_simp; done) | (go_simp; rfl)); (case hp => exact Reps.one (show Kd.FK (Kd.slice 3 (Kd.int .i64)) _ _ (List.replicate l0.length (0 : Int)) [.slice Az (List.replicate l0.length (0 : Int)).length cz] from Kd.FK_slice_mk (Kd.R_reads' HZ.out).2.1 (Kd.R_F (Kd.R_mono (ok' := fun k_ => w.heap.size ≤ k_) (Kd.R_newM (M := fun k_ => w.heap.size ≤ k_) HZ.out HB.out.size (fun _ h_ => h_)) (fun _ hk => hk.1)))) (Reps.none _ _)); intro va wa hoa hba _ _; have HA := Aside0.mk hoa; have HBA := Aside0.mk hba; clear hoa hba))
            have HB2 := Aside0.mk (below_step (below_step HB.out HBZ.out) HBA.out)
            have HA2 := Aside0.mk (Kd.N_lower HA.out (Nat.le_trans HB.out.size HBZ.out.size))
            clear HA HBA HBZ HB HZ
            have HB := HB2
            clear HB2
            go_loopg [10, 58] l1.length (fun gg s10 s58 wr => ∃ (i : Nat), s58 = .int .i64 i ∧ i ≤ l1.length ∧ l1.length - i ≤ gg ∧ Aside0 (Kd.N (Kd.slice 3 (Kd.int .i64)) 30 wr w.heap.size (fun k_ => w.heap.size ≤ k_) s10 (allC m l0.length (l1.take i))) ∧ Aside0 (Below w.heap.size w wr))
            case atStart => exact ⟨0, rfl, by omega, by omega, HA2, HB⟩
            case round =>
              clear HB HA2
              obtain ⟨i2, rfl, hi2, hgg2, HA, HB⟩ := hrel
              obtain ⟨Aa, ca, rfl⟩ := Kd.N_slice HA.out
              by_cases hlt2 : i2 < l1.length
              · have hltd2 : decide ((i2 : Int) < (l1.length : Int)) = true := decide_eq_true (by omega)
                have hm4 : m ≤ 10000 := by
                  have h1 := HCnt.out
                  obtain ⟨n', hn'⟩ : ∃ n', l1.length = n' + 1 := ⟨l1.length - 1, by omega⟩
                  rw [hn', cntOk] at h1
                  split at h1
                  · cases h1
                  · rename_i h2; omega
                obtain ⟨ad, Ax, cx, eax, hx0, hlx, hCx⟩ := at_L1 HR1.out (i2 : Int) (by omega) (by omega)
                replace hx0 := (HB.out.cell (World.block_lt_of_cell? w _ hx0)).trans hx0
                cases eax
                have hx0l : (rd_L1 l1 (i2 : Int)).length = l0.length := HRows.out i2 hlt2
                have hallx : allC m l0.length (l1.take (i2 + 1)) = stepC m (allC m l0.length (l1.take i2)) (rd_L1 l1 (i2 : Int)) := by
                  rw [allC_take m l0.length l1 i2 hlt2]
                  congr 1
                  unfold rd_L1
                  rw [Int.toNat_natCast, List.getD_eq_getElem?_getD, List.getElem?_eq_getElem hlt2]; rfl
                have hlen := cnt_all m l0.length l1 HCnt.out (i2 + 1) hlt2
                have hlen0 := cnt_all m l0.length l1 HCnt.out i2 (by omega)
                rw [hallx, stepC_length] at hlen
                have hrw := allC_rows m l0.length l1 i2 (by omega)
                simp only [Int.toNat_natCast] at hx0
                have q0 : (i2 : Int) < (l1.length : Int) := by omega
                obtain ⟨xs, hxs⟩ : ∃ xs, xs = rd_L1 l1 (i2 : Int) := ⟨_, rfl⟩
                rw [← hxs] at hx0 hlx hCx hx0l hallx
                obtain ⟨all, hall⟩ : ∃ all, all = allC m l0.length (l1.take i2) := ⟨_, rfl⟩
                rw [← hall] at HA hallx hlen hlen0 hrw ⊢
                have HCx := Aside0.mk hCx
                have HLx := Aside0.mk hlx
                have HX0 := Aside0.mk hx0l
                have HAll := Aside0.mk hallx
                have HLen := Aside0.mk hlen
                have HLen0 := Aside0.mk hlen0
                have HRw := Aside0.mk hrw
                have HM4 := Aside0.mk hm4
                clear hCx hlx hx0l hallx hlen hlen0 hrw hm4 hxs hall HRows
                go_wp2
                go_loopg [13, 64] all.length (fun gg s13 s64 wr => ∃ (j : Nat), s64 = .int .i64 j ∧ j ≤ all.length ∧ all.length - j ≤ gg ∧ Aside0 (Kd.N (Kd.slice 3 (Kd.int .i64)) 30 wr w.heap.size (fun k_ => w.heap.size ≤ k_ ∧ some k_ ≠ s13.ownBlock) (.slice Aa all.length ca) all) ∧ Aside0 (Kd.N (Kd.slice 3 (Kd.int .i64)) 30 wr w.heap.size (fun k_ => w.heap.size ≤ k_) s13 (partC m all xs j 0)) ∧ Aside0 (Below w.heap.size w wr))
                case atStart => exact ⟨0, rfl, by omega, by omega, ⟨Kd.N_mono HA.out (fun k hk => ⟨hk, by simp [Value.ownBlock]⟩)⟩, ⟨by rw [partC_zero]; exact Kd.N_nil _ _ _ _ _⟩, HB⟩
                case round =>
                  clear HB HA
                  obtain ⟨j, rfl, hj, hgg3, HA, HNx, HB⟩ := hrel
                  obtain ⟨An, cn, rfl⟩ := Kd.N_slice HNx.out
                  by_cases hlt3 : j < all.length
                  · have hltd3 : decide ((j : Int) < (all.length : Int)) = true := decide_eq_true (by omega)
                    obtain ⟨ga, capa, Ay, cy, eva, hy0, hVy⟩ := N_row HA.out j hlt3
                    injection eva with eva1 _ eva3
                    subst eva1 eva3
                    obtain ⟨y, hye⟩ : ∃ y, y = all.getD j [] := ⟨_, rfl⟩
                    rw [← hye] at hy0 hVy
                    have q1 : (j : Int) < (all.length : Int) := by omega
                    have HV := Aside0.mk (Kd.V_mono (ok' := fun k_ => w.heap.size ≤ k_ ∧ some k_ ≠ (.slice An (partC m all xs j 0).length cn : Value).ownBlock) hVy (fun _ hk => hk.1))
                    have HYe := Aside0.mk hye
                    have HM4 := HM4
                    have hnm : wrap64 (-(m : Int)) = -(m : Int) := by have := HM4.out; exact wrap64_id (by omega)
                    clear hVy hye
                    go_wp2
                    go_loopg [13, 16] (2 * m + 1) (fun gg s13 s16 wr => ∃ (t : Nat), s16 = .int .i64 ((t : Int) - (m : Int)) ∧ t ≤ 2 * m + 1 ∧ 2 * m + 1 - t ≤ gg ∧ Aside0 (Kd.N (Kd.slice 3 (Kd.int .i64)) 30 wr w.heap.size (fun k_ => w.heap.size ≤ k_ ∧ some k_ ≠ s13.ownBlock) (.slice (some ⟨ga, 0, none⟩) all.length ca) all) ∧ Aside0 (Kd.N (Kd.slice 3 (Kd.int .i64)) 30 wr w.heap.size (fun k_ => w.heap.size ≤ k_) s13 (partC m all xs j t)) ∧ Aside0 (Kd.V (Kd.int .i64) 3 wr w.heap.size (fun k_ => w.heap.size ≤ k_ ∧ some k_ ≠ s13.ownBlock) (.slice Ay y.length cy) y) ∧ Aside0 (Below w.heap.size w wr))
                    case atStart => exact ⟨0, by rw [show ((0 : Nat) : Int) - (m : Int) = -(m : Int) by omega], by omega, by omega, HA, HNx, HV, HB⟩
                    case round =>
                      clear HB HA HNx HV hnm
                      obtain ⟨t, rfl, ht, hgg4, HA, HNx, HV, HB⟩ := hrel
                      obtain ⟨An2, cn2, rfl⟩ := Kd.N_slice HNx.out
                      by_cases hlt4 : t < 2 * m + 1
                      · have hltd4 : decide ((t : Int) - (m : Int) ≤ (m : Int)) = true := decide_eq_true (by omega)
                        have hy0 : y.length = l0.length := by
                          rw [HYe.out, List.getD_eq_getElem?_getD, List.getElem?_eq_getElem hlt3]
                          exact HRw.out _ (List.getElem_mem hlt3)
                        have hty : g_Clone_Row.f y = some y := by
                          unfold g_Clone_Row.f
                          rw [if_pos (by omega)]
                        have HY0 := Aside0.mk hy0
                        clear hy0
                        have HTY := Aside0.mk hty
                        clear hty
                        go_wp2_with (go_at_call 50; (with_reducible refine (g_Clone_Row.calls Ay cy y y _ (Kd.V_reads' HV.out).2.2 (Kd.V_reads' HV.out).2.1 HTY.out).mono ?_); rintro e w1 ⟨vz, rfl, hoz, hbz⟩; have HZ := Aside0.mk hoz; have HBZ := Aside0.mk hbz; clear hoz hbz; obtain ⟨Az, cz, rfl⟩ := Kd.R_slice HZ.out)
                        obtain ⟨w6, hw6⟩ : ∃ w6, w6 = wr := ⟨_, rfl⟩
                        subst hw6
                        go_loopg [79] y.length (fun gg s79 w8 => ∃ (i8 : Nat), s79 = .int .i64 i8 ∧ i8 ≤ y.length ∧ y.length - i8 ≤ gg ∧ Aside0 (Kd.R (Kd.int .i64) 3 w8 w6.heap.size (fun _ => True) (.slice Az y.length cz) ((zrow xs y ((t : Int) - (m : Int))).take i8 ++ y.drop i8)) ∧ Aside0 (Below w6.heap.size w6 w8))
                        case atStart => exact ⟨0, rfl, by omega, by omega, HZ, HBZ⟩
                        case round =>
                          clear HZ HBZ
                          obtain ⟨i8, rfl, hi8, hgg8, HZ, HBZ⟩ := hrel
                          by_cases hlt8 : i8 < y.length
                          · have hltd8 : decide ((i8 : Int) < (y.length : Int)) = true := decide_eq_true (by omega)
                            have hzl := zrow_len xs y ((t : Int) - (m : Int)) i8 (by omega)
                            obtain ⟨g8, c8, e8, gb8, gl8, cells8, hcells8⟩ := Kd.R_form HZ.out (by omega)
                            injection e8 with e8a e8b e8c
                            clear e8b
                            subst e8a e8c
                            obtain ⟨hz1, hz2⟩ := Kd.R_celln 0 HZ.out (i8 : Int) (by omega) (by omega)
                            have hz3 : wr.cell? ⟨g8, i8, none⟩ = some (.int .i64 (rd y (i8 : Int))) := by
                              rw [← zrow_read xs y ((t : Int) - (m : Int)) i8 hlt8]
                              exact hz1
                            rw [Int.toNat_natCast] at hz2
                            obtain ⟨adx, ex8, hxc⟩ := Kd.at_int (Kd.C_below HCx.out (below_step HB.out HBZ.out)) (i8 : Int) (by omega) (by have := HX0.out; have := HY0.out; omega)
                            cases ex8
                            simp only [Int.toNat_natCast] at hxc
                            have q8 : (i8 : Int) < (y.length : Int) := by omega
                            have q9 : (i8 : Int) < (xs.length : Int) := by have := HX0.out; have := HY0.out; omega
                            have HGB := Aside0.mk gb8
                            have HP := Aside0.mk (fun W (h : Kd.R (Kd.int .i64) 3 W w6.heap.size (fun _ => True) (.slice (some ⟨g8, 0, none⟩) y.length cz) ((zrow xs y ((t : Int) - (m : Int))).take i8 ++ y.drop i8)) => Kd.R_putg h (i8 : Int) (wrap64 (rd y (i8 : Int) + wrap64 (((t : Int) - (m : Int)) * rd xs (i8 : Int)))))
                            clear hzl hz1 gl8 hcells8 gb8
                            have hmo : Tryz.prog.follows Departure.mixedOrders = true := by kernel_rfl
                            go_wp2_with fail
                            go_region_o
                            go_wp2
                            go_roundg (y.length - (i8 + 1))
                            case measure => omega
                            case rel =>
                              have hp := (HP.out _ HZ.out).1
                              rw [Int.toNat_natCast, zrow_step xs y _ i8 hlt8] at hp
                              exact ⟨i8 + 1, congrArg _ (w64s (by have := HY0.out; omega)), by omega, Nat.le_refl _, ⟨Kd.R_drew hp⟩, ⟨below_drew1 (HBZ.out.setCell (by exact HGB.out) _)⟩⟩
                          · have hltd8 : decide ((i8 : Int) < (y.length : Int)) = false := decide_eq_false (by omega)
                            have : i8 = y.length := by omega
                            subst this
                            have hz9 : (zrow xs y ((t : Int) - (m : Int))).take y.length ++ y.drop y.length = zrow xs y ((t : Int) - (m : Int)) := by
                              rw [List.drop_length, List.append_nil, List.take_of_length_le (by rw [zrow_length]; exact Nat.le_refl _)]
                            have HZ2 := HZ.out
                            rw [hz9] at HZ2
                            obtain ⟨zz, hzz⟩ : ∃ zz, zz = zrow xs y ((t : Int) - (m : Int)) := ⟨_, rfl⟩
                            have hzl : zz.length = y.length := by rw [hzz, zrow_length]
                            rw [← hzz] at HZ2
                            have HZ3 := Aside0.mk HZ2
                            have HZZ := Aside0.mk hzz
                            have HZL := Aside0.mk hzl
                            have HPL := Aside0.mk (partC_length m all xs j t hlt3 ht)
                            clear HZ2 HZ hz9 hzz hzl
                            have HFK := Aside0.mk (show Kd.FK (Kd.slice 3 (Kd.int .i64)) wr (fun k_ => w6.heap.size ≤ k_) zz [.slice Az y.length cz] from by
                              rw [← HZL.out]
                              have h1 := HZ3.out
                              rw [← HZL.out] at h1
                              exact Kd.FK_slice_mk (Kd.R_reads' h1).2.1 (Kd.R_F (Kd.R_mono (Kd.R_bound h1) (fun k hk => hk.2.1))))
                            have HBW := Aside0.mk (below_step HB.out HBZ.out)
                            go_wp2_with ((with_reducible refine gate_builtin (b := .append) (xs := #[.tmp 95, .tmp 97]) rfl ?_); at_builtin; refine Kd.N_append (Kd.slice 3 (Kd.int .i64)) (w0 := w) w.heap.size rfl (.tmp 95) (.tmp 97) 36 30 (.slice none 0 0) 24 rfl Tryz.underlying36 info30 rfl (by decide) (by omega) (.slice An2 (partC m all xs j t).length cn2) (partC m all xs j t) zz [.slice Az y.length cz] (fun k_ => w.heap.size ≤ k_) (fun k_ => w6.heap.size ≤ k_) rfl rfl HFK.out (fun k hk => ⟨Nat.le_trans HB.out.size hk, fun he => absurd (Kd.N_lt HNx.out k he.symm) (by omega)⟩) (fun k hk => Nat.le_trans HBW.out.size hk) (Kd.N_below HNx.out HBZ.out) HBW.out HBW.out.size (by have := HPL.out; have := HLen.out; omega) ?_; intro v1 w1 hN hB hg hat; have HN1 := Aside0.mk hN; have HB1 := Aside0.mk hB; have HA1 := Aside0.mk (Kd.N_afterv (ok := fun k_ => w.heap.size ≤ k_) (Kd.N_below HA.out HBZ.out) hg hat); have HV1 := Aside0.mk (Kd.V_afterv (ok := fun k_ => w.heap.size ≤ k_) (Kd.V_below HV.out HBZ.out) hg hat); clear hN hB hg hat)
                            go_roundg (2 * m + 1 - (t + 1))
                            case measure => omega
                            case rel =>
                              have e7 := partC_snoc m all xs j t (by omega)
                              rw [← HYe.out, ← HZZ.out] at e7
                              exact ⟨t + 1, congrArg _ (w64t (by have := HM4.out; omega) (by have := HM4.out; omega)), by omega, Nat.le_refl _, HA1, ⟨by rw [e7]; exact HN1.out⟩, HV1, HB1⟩
                      · have hltd4 : decide ((t : Int) - (m : Int) ≤ (m : Int)) = false := decide_eq_false (by omega)
                        have : t = 2 * m + 1 := by omega
                        subst this
                        have e6 := partC_next m all xs j hlt3
                        go_wp2
                        go_roundg (all.length - (j + 1))
                        case measure => omega
                        case rel => exact ⟨j + 1, congrArg _ (w64s (by have := HLen0.out; omega)), by omega, Nat.le_refl _, HA, ⟨by rw [← e6]; exact HNx.out⟩, HB⟩
                  · have hltd3 : decide ((j : Int) < (all.length : Int)) = false := decide_eq_false (by omega)
                    have : j = all.length := by omega
                    subst this
                    have e5 := partC_all m all xs
                    rw [← HAll.out] at e5
                    go_wp2
                    go_roundg (l1.length - (i2 + 1))
                    case measure => omega
                    case rel =>
                      exact ⟨i2 + 1, rfl, by omega, Nat.le_refl _, ⟨by rw [← e5]; exact HNx.out⟩, HB⟩
              · have hltd2 : decide ((i2 : Int) < (l1.length : Int)) = false := decide_eq_false (by omega)
                have : i2 = l1.length := by omega
                subst this
                have HA0 := HA.out
                rw [List.take_length] at HA0
                obtain ⟨all, hall⟩ : ∃ all, all = allC m l0.length l1 := ⟨_, rfl⟩
                rw [List.take_length, ← hall]
                rw [← hall] at HA0 HF
                have HA2 := Aside0.mk HA0
                have HLen0 := Aside0.mk (by have := cnt_all m l0.length l1 HCnt.out l1.length (Nat.le_refl _); rw [List.take_length, ← hall] at this; exact this : all.length ≤ 10000)
                clear HA0 HA hall HRows
                obtain ⟨o, hfo, hor⟩ := Option.bind_eq_some_iff.1 HF.out
                have HFO := Aside0.mk hfo
                have HOR := Aside0.mk hor
                clear hfo hor HF
                go_wp2
                go_loopg [19, 104] all.length (fun gg s19 s104 wr => ∃ (j : Nat) (out : List (List Int)), s104 = .int .i64 j ∧ j ≤ all.length ∧ all.length - j ≤ gg ∧ out.length ≤ j ∧ Aside0 (Kd.N (Kd.slice 3 (Kd.int .i64)) 30 wr w.heap.size (fun k_ => w.heap.size ≤ k_ ∧ some k_ ≠ s19.ownBlock) (.slice Aa all.length ca) all) ∧ Aside0 (Kd.N (Kd.slice 3 (Kd.int .i64)) 30 wr w.heap.size (fun k_ => w.heap.size ≤ k_) s19 out) ∧ Aside0 (filtC k l0 all = (filtC k l0 (all.drop j)).map fun o => o.map fun r => out ++ r) ∧ Aside0 (Below w.heap.size w wr))
                case atStart => exact ⟨0, [], rfl, by omega, by omega, by simp, ⟨Kd.N_mono HA2.out (fun k hk => ⟨hk, by simp [Value.ownBlock]⟩)⟩, ⟨Kd.N_nil _ _ _ _ _⟩, ⟨by simp⟩, HB⟩
                case round =>
                  clear HB HA2
                  obtain ⟨j, out, rfl, hj, hgg3, hoj, HA, HNx, HFi, HB⟩ := hrel
                  obtain ⟨An, cn, rfl⟩ := Kd.N_slice HNx.out
                  by_cases hlt3 : j < all.length
                  · have hltd3 : decide ((j : Int) < (all.length : Int)) = true := decide_eq_true (by omega)
                    obtain ⟨ga, capa, Ay, cy, eva, hy0, hVy⟩ := N_row HA.out j hlt3
                    injection eva with eva1 eva2 eva3
                    clear eva2
                    subst eva1 eva3
                    obtain ⟨y, hye⟩ : ∃ y, y = all.getD j [] := ⟨_, rfl⟩
                    rw [← hye] at hy0 hVy
                    have hyd : all.drop j = y :: all.drop (j + 1) := by
                      rw [List.drop_eq_getElem_cons hlt3, hye, List.getD_eq_getElem?_getD, List.getElem?_eq_getElem hlt3]; rfl
                    have hfa := HFi.out
                    rw [HFO.out, hyd, filtC] at hfa
                    obtain ⟨o2, hfa2, hfa3⟩ := Option.map_eq_some_iff.1 hfa.symm
                    obtain ⟨sg, hsg, hfa4⟩ := Option.bind_eq_some_iff.1 hfa2
                    have q1 : (j : Int) < (all.length : Int) := by omega
                    have HV := Aside0.mk (Kd.V_mono (ok' := fun k_ => w.heap.size ≤ k_ ∧ some k_ ≠ (.slice An out.length cn : Value).ownBlock) hVy (fun _ hk => hk.1))
                    obtain ⟨sg1, sg2⟩ := sg
                    have HSG := Aside0.mk hsg
                    have HYD := Aside0.mk hyd
                    have HF3 := Aside0.mk hfa3
                    clear hVy hye hyd hfa hfa2 hfa3 hsg
                    by_cases hs2 : sg2 = 0
                    · subst hs2
                      have HF4 := Aside0.mk hfa4
                      clear hfa4
                      by_cases hs1 : sg1 > 0
                      · have hs1d : decide (sg1 > 0) = true := decide_eq_true hs1
                        go_wp2_with (first
                          | (go_at_call 22; (with_reducible refine (monzo_Sign.calls k A0 c0 l0 Ay cy y sg1 0 _ (Glob.below HG.out HB.out) (Kd.C_below HR0.out HB.out) HC0.out (Kd.V_reads' HV.out).2.2 (Kd.V_reads' HV.out).2.1 HSG.out).mono ?_); rintro e w1 ⟨rfl, hb⟩; have HA1 := Aside0.mk (Kd.N_below HA.out hb); have HN1 := Aside0.mk (Kd.N_below HNx.out hb); have HV1 := Aside0.mk (Kd.V_below HV.out hb); have HB1 := Aside0.mk (below_step HB.out hb); clear hb; have HFK := Aside0.mk (show Kd.FK (Kd.slice 3 (Kd.int .i64)) w1 (fun k_ => w.heap.size ≤ k_ ∧ some k_ ≠ (.slice An out.length cn : Value).ownBlock) y [.slice Ay y.length cy] from Kd.FK_slice_mk (Kd.V_reads' HV1.out).2.1 (Kd.V_F HV1.out)))
                          | ((with_reducible refine gate_builtin (b := .append) (xs := #[.tmp 118, .tmp 120]) rfl ?_); at_builtin; refine Kd.N_append (Kd.slice 3 (Kd.int .i64)) (w0 := w) w.heap.size rfl (.tmp 118) (.tmp 120) 36 30 (.slice none 0 0) 24 rfl Tryz.underlying36 info30 rfl (by decide) (by omega) (.slice An out.length cn) out y [.slice Ay y.length cy] (fun k_ => w.heap.size ≤ k_) (fun k_ => w.heap.size ≤ k_ ∧ some k_ ≠ (.slice An out.length cn : Value).ownBlock) rfl rfl HFK.out (fun k hk => hk) (fun k hk => Nat.le_trans HB1.out.size hk) HN1.out HB1.out HB1.out.size (by have := HLen0.out; omega) ?_; intro v1 w2 hN hB hg hat; have HN2 := Aside0.mk hN; have HB2 := Aside0.mk hB; have HA2 := Aside0.mk (Kd.N_afterv (ok := fun k_ => w.heap.size ≤ k_) HA1.out hg hat); clear hN hB hg hat))
                        go_roundg (all.length - (j + 1))
                        case measure => omega
                        case rel =>
                          refine ⟨j + 1, out ++ [y], congrArg _ (w64s (by have := HLen0.out; omega)), by omega, Nat.le_refl _, by rw [List.length_append, List.length_singleton]; omega, HA2, HN2, ⟨?_⟩, HB2⟩
                          rw [HFi.out, HYD.out, filtC, HSG.out]
                          simp only [Option.bind_some, if_true, if_pos hs1, Option.map_map]
                          congr 1
                          funext o
                          cases o <;> simp
                      · have hs1d : decide (sg1 > 0) = false := decide_eq_false hs1
                        go_wp2_with (first
                          | (go_at_call 22; (with_reducible refine (monzo_Sign.calls k A0 c0 l0 Ay cy y sg1 0 _ (Glob.below HG.out HB.out) (Kd.C_below HR0.out HB.out) HC0.out (Kd.V_reads' HV.out).2.2 (Kd.V_reads' HV.out).2.1 HSG.out).mono ?_); rintro e w1 ⟨rfl, hb⟩; have HA1 := Aside0.mk (Kd.N_below HA.out hb); have HN1 := Aside0.mk (Kd.N_below HNx.out hb); have HB1 := Aside0.mk (below_step HB.out hb); clear hb))
                        go_roundg (all.length - (j + 1))
                        case measure => omega
                        case rel =>
                          refine ⟨j + 1, out, congrArg _ (w64s (by have := HLen0.out; omega)), by omega, Nat.le_refl _, by omega, HA1, HN1, ⟨?_⟩, HB1⟩
                          rw [HFi.out, HYD.out, filtC, HSG.out]
                          simp only [Option.bind_some, if_true, if_neg (show ¬ sg1 > 0 by omega), Option.map_map]
                          congr 1
                          funext o
                          cases o <;> simp
                    · have hs2b : (sg2 == 0) = false := beq_eq_false_iff_ne.mpr hs2
                      have hs2c : (sg2 != 0) = true := bne_iff_ne.mpr hs2
                      rw [if_neg hs2] at hfa4
                      have ho : o = none := by
                        rw [← HF3.out, ← Option.some.inj hfa4]; rfl
                      have hor := HOR.out
                      rw [ho] at hor
                      obtain ⟨rfl, rfl⟩ := Prod.mk.inj (Option.some.inj hor)
                      clear hfa4 ho hor HF3 HOR
                      go_wp2_with (first
                        | (go_at_call 22; (with_reducible refine (monzo_Sign.calls k A0 c0 l0 Ay cy y sg1 sg2 _ (Glob.below HG.out HB.out) (Kd.C_below HR0.out HB.out) HC0.out (Kd.V_reads' HV.out).2.2 (Kd.V_reads' HV.out).2.1 HSG.out).mono ?_); rintro e w1 ⟨rfl, hb⟩; have HB1 := Aside0.mk (below_step HB.out hb); clear hb))
                      go_ret2
                      exact ⟨_, rfl, Kd.N_nil _ _ _ _ _, HB1.out⟩
                  · have hltd3 : decide ((j : Int) < (all.length : Int)) = false := decide_eq_false (by omega)
                    have hfa := HFi.out
                    rw [HFO.out, List.drop_eq_nil_of_le (by omega), filtC] at hfa
                    have ho : o = some out := by
                      have := Option.some.inj hfa
                      rw [this]; simp
                    have hor := HOR.out
                    rw [ho] at hor
                    obtain ⟨so, hso, hor⟩ := Option.bind_eq_some_iff.1 hor
                    obtain ⟨co, hco, hor⟩ := Option.bind_eq_some_iff.1 hor
                    obtain ⟨rfl, rfl⟩ := Prod.mk.inj (Option.some.inj hor)
                    have HSO := Aside0.mk hso
                    have HCO := Aside0.mk hco
                    clear hfa ho hor hso hco HOR HFO
                    go_wp2_with (first
                      | (go_at_call 51; (with_reducible refine (g_sort_Row.calls HNx.out HSO.out).mono ?_); rintro e w1 ⟨rfl, hN, hb, _⟩; have HN1 := Aside0.mk hN; have HB1 := Aside0.mk hb; clear hN hb)
                      | (go_at_call 53; (with_reducible refine (g_compact_Row.calls HN1.out HCO.out).mono ?_); rintro e w2 ⟨v2, rfl, hN, hb⟩; have HN2 := Aside0.mk hN; have HB2 := Aside0.mk hb; clear hN hb))
                    go_ret2
                    exact ⟨_, rfl, HN2.out, (HB.out.trans HB1.out).trans HB2.out⟩
          · rw [if_neg hgd] at h
            cases h
  · rw [if_neg he] at h
    obtain ⟨rfl, rfl⟩ := Prod.mk.inj (Option.some.inj h)
    have hed : (e0 == 0) = false := beq_eq_false_iff_ne.mpr he
    have hed2 : (e0 != 0) = true := bne_iff_ne.mpr he
    go_enter Tryz.func21, Tryz.ntmps21
    go_wp2_with (go_at_call 24; (with_reducible refine (monzo_CheckAll.calls k A0 c0 l0 A1 c1 l1 e0 _ HR0.out HC0.out HR1.out HC1.out HE.out).mono ?_); rintro e w' ⟨rfl, hd⟩)
    go_ret2
    exact ⟨_, rfl, Kd.N_nil _ _ _ _ _, hd.below⟩
end Go.Proofs.YtobdccgpbohpiaaGreatDoor
