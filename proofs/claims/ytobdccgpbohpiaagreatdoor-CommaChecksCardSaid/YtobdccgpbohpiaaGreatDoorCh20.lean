/- Ch: a part of the proof. -/
import Derived.Test.YtobdccgpbohpiaaGreatDoorCh14
import Derived.Test.YtobdccgpbohpiaaGreatDoorCh16
import Derived.Test.YtobdccgpbohpiaaGreatDoorCh19
namespace Go.Proofs.YtobdccgpbohpiaaGreatDoor.F
set_option maxHeartbeats 8000000
set_option maxRecDepth 100000
open Go.RowKit Go.Proofs.YtobdccgpbohpiaaGreatDoorW.PrintWords Go.Proofs.YtobdccgpbohpiaaGreatDoorW.PrintLast Go.Proofs.YtobdccgpbohpiaaGreatDoorW.PrintMore
attribute [local go_sem] max2_int min2_int max_two min_two max_three min_three max_four min_four
set_option linter.unusedVariables false
set_option linter.unusedSimpArgs false
mutual
def comma_numbers.l0 : Nat → Int → List (S83) → List Int → Int → Int → Option ((List (S83)))
 | 0, _, _, _, _, _ => none
 | k + 1, x1, x5, x15, x16, x17 => if x17 < x16 then (if 0 ≤ x17 then (if x17 < (x15.length : Int) then (comma_numbers.l1 k x1 x5 x17 (rd x15 x17) 0 x15 x16 x17) else (none)) else (none)) else ((g_sort_smooth.f x5).bind fun z_ => (some z_))
def comma_numbers.l1 : Nat → Int → List (S83) → Int → Int → Int → List Int → Int → Int → Option ((List (S83)))
 | 0, _, _, _, _, _, _, _, _ => none
 | k + 1, x1, x5, x6, x7, x8, x15, x16, x17 => if x8 < (x5.length : Int) then (if 0 ≤ x8 then (if x7 = 0 then (none) else (if ((rd_T83 x5 x8).f0) ≤ (wrap64 (Int.tdiv x1 x7)) then ((g_Clone_Row.f ((rd_T83 x5 x8).f1)).bind fun t291 => (if 0 ≤ x6 then (if x6 < (t291.length : Int) then (if x5.length < 4398046511104 then (comma_numbers.l1 k x1 (x5 ++ [(⟨wrap64 (((rd_T83 x5 x8).f0) * x7), (t291.set (x6 : Int).toNat (wrap64 ((rd t291 x6) + 1)))⟩ : S83)]) x6 x7 (wrap64 (x8 + 1)) x15 x16 x17) else (none)) else (none)) else (none))) else (comma_numbers.l1 k x1 x5 x6 x7 (wrap64 (x8 + 1)) x15 x16 x17))) else (none)) else (comma_numbers.l0 k x1 x5 x15 x16 (wrap64 (x17 + 1)))
end
def comma_numbers.f (k : Nat) (l0 : List Int) (a1 : Int) : Option ((List (S83))) := if 0 ≤ (l0.length : Int) then (if ((l0.length : Int) : Int).toNat ≤ 35184372088832 then (comma_numbers.l0 k a1 (([(⟨1, (List.replicate ((l0.length : Int) : Int).toNat 0)⟩ : S83)] : List (S83))) l0 (l0.length : Int) 0) else (none)) else (none)
theorem comma_numbers.mono_l : ∀ k, (∀ y0 y1 y2 y3 y4, LeO (comma_numbers.l0 k y0 y1 y2 y3 y4) (comma_numbers.l0 (k + 1) y0 y1 y2 y3 y4)) ∧ (∀ y0 y1 y2 y3 y4 y5 y6 y7, LeO (comma_numbers.l1 k y0 y1 y2 y3 y4 y5 y6 y7) (comma_numbers.l1 (k + 1) y0 y1 y2 y3 y4 y5 y6 y7))
 | 0 => ⟨fun _ _ _ _ _ r h => by simp [comma_numbers.l0] at h, fun _ _ _ _ _ _ _ _ r h => by simp [comma_numbers.l1] at h⟩
 | k + 1 => by
  obtain ⟨ih0, ih1⟩ := comma_numbers.mono_l k
  refine ⟨?_, ?_⟩
  ·intro y0 y1 y2 y3 y4
   unfold comma_numbers.l0
   repeat' first
   | (with_reducible exact ih0 _ _ _ _ _)
   | (with_reducible exact ih1 _ _ _ _ _ _ _ _)
   | (with_reducible exact LeO.refl _)
   | (with_reducible exact LeO.none _)
   | (with_reducible refine LeO.ite ?_ ?_)
   | (with_reducible refine LeO.bind ?_ (fun _ => ?_))
   | refine LeO.ite ?_ ?_
   | refine LeO.bind ?_ (fun _ => ?_)
  ·intro y0 y1 y2 y3 y4 y5 y6 y7
   unfold comma_numbers.l1
   repeat' first
   | (with_reducible exact ih0 _ _ _ _ _)
   | (with_reducible exact ih1 _ _ _ _ _ _ _ _)
   | (with_reducible exact LeO.refl _)
   | (with_reducible exact LeO.none _)
   | (with_reducible refine LeO.ite ?_ ?_)
   | (with_reducible refine LeO.bind ?_ (fun _ => ?_))
   | refine LeO.ite ?_ ?_
   | refine LeO.bind ?_ (fun _ => ?_)
theorem comma_numbers.mono : ∀ a0 a1 k, LeO (comma_numbers.f k a0 a1) (comma_numbers.f (k + 1) a0 a1) := by
 intro a0 a1 k
 obtain ⟨ih0, ih1⟩ := comma_numbers.mono_l k
 unfold comma_numbers.f
 repeat' first
   | (with_reducible exact ih0 _ _ _ _ _)
   | (with_reducible exact ih1 _ _ _ _ _ _ _ _)
   | (with_reducible exact LeO.refl _)
   | (with_reducible exact LeO.none _)
   | (with_reducible refine LeO.ite ?_ ?_)
   | (with_reducible refine LeO.bind ?_ (fun _ => ?_))
   | refine LeO.ite ?_ ?_
   | refine LeO.bind ?_ (fun _ => ?_)
theorem comma_numbers.calls (k : Nat) (A0 : Option Addr) (c0 : Nat) (l0 : List Int) (a1 : Int) (r : List (S83)) (w : World) (hr0 : Kd.C (Kd.int .i64) w A0 l0.length l0) (hc0 : l0.length ≤ c0) (h : comma_numbers.f k l0 a1 = some r) :
  Calls Tryz.prog 39 #[.slice A0 l0.length c0, .int .i64 a1] w fun e w' => ∃ v0_ : Value, e = .returned (v0_) ∧ Kd.N k83 83 w' w.heap.size (fun k_ => (w.heap.size ≤ k_)) v0_ r ∧ Below w.heap.size w w' := by
 have hu83 := Tryz.underlying83
 have HR0 := Aside0.mk hr0
 have HC0 := Aside0.mk hc0
 clear hr0 hc0
 have HB := Aside0.mk (Below.refl w.heap.size w)
 have H : (if 0 ≤ (l0.length : Int) then (if ((l0.length : Int) : Int).toNat ≤ 35184372088832 then (comma_numbers.l0 k a1 (([(⟨1, (List.replicate ((l0.length : Int) : Int).toNat 0)⟩ : S83)] : List (S83))) l0 (l0.length : Int) 0) else (none)) else (none)) = some r := h
 clear h
 by_cases c3 : 0 ≤ (l0.length : Int)
 ·rw [if_pos c3] at H
  have c3b0 := eq_true c3
  have c3b1 : decide (0 ≤ (l0.length : Int)) = true := decide_eq_true c3
  clear c3
  by_cases c4 : ((l0.length : Int) : Int).toNat ≤ 35184372088832
  ·rw [if_pos c4] at H
   have c4b0 := eq_true c4
   have c4b1 : decide (((l0.length : Int) : Int).toNat ≤ 35184372088832) = true := decide_eq_true c4
   clear c4
   obtain ⟨y282, hy282⟩ : ∃ y_ : List Int, y_ = (List.replicate ((l0.length : Int) : Int).toNat 0) := ⟨_, rfl⟩
   replace H : (comma_numbers.l0 k a1 (([(⟨1, y282⟩ : S83)] : List (S83))) l0 (l0.length : Int) 0) = some r := by first | (rw [hy282]; exact H) | exact H
   have Ny282 := Aside0.mk hy282
   clear hy282
   obtain ⟨y285, hy285⟩ : ∃ y_ : List (S83), y_ = (([(⟨1, y282⟩ : S83)] : List (S83))) := ⟨_, rfl⟩
   replace H : (comma_numbers.l0 k a1 y285 l0 (l0.length : Int) 0) = some r := by first | (rw [hy285]; exact H) | exact H
   have Ny285 := Aside0.mk hy285
   clear hy285
   have H' := Aside0.mk H
   clear H
   go_enter Tryz.func39, Tryz.ntmps39
   go_wp2_with (first | ((with_reducible refine gate_dst (N := 12) rfl ?_); refine Kd.R_make (Kd.int .i64) _ 3 rfl (N := 12) rfl 30 _ _ rfl (l0.length : Int) rfl rfl Tryz.underlying30 (.int .i64 0) 8 info3 rfl (by decide) (by omega) 0 (ok := fun _ => True) (okp := fun _ => True) rfl (fun _ hk => hk) trivial (of_decide_eq_true (by with_reducible assumption)) (Nat.le_trans (Nat.mul_le_mul_right _ (of_decide_eq_true (by with_reducible assumption) : (l0.length : Int).toNat ≤ 35184372088832)) (by omega)) (Below.refl _ _) (Nat.le_refl _) ?_; intro v283 w5 ho6 hb hg_ hnew_; clear hg_ hnew_; (first | rw [← Ny282.out] at ho6 | (simp only [Int.reduceToNat] at ho6; rw [← Ny282.out] at ho6)); have n0_ := Aside0.mk (Kd.R_lower (Kd.R_newM (M := fun k_ => (w.heap.size ≤ k_)) ho6 (below_size (by with_reducible repeat first | exact HB.out | apply below_alloc | apply pw_below_drewN | apply below_drew1)) (fun k_ h_ => h_)) (below_size (by with_reducible repeat first | exact HB.out | apply below_alloc | apply pw_below_drewN | apply below_drew1))); have n1_ := Aside0.mk (below_step (by with_reducible repeat first | exact HB.out | apply below_alloc | apply pw_below_drewN | apply below_drew1) hb); clear HB; have HO284 := n0_; have HB := n1_; clear n0_ n1_; clear hb ho6; obtain ⟨Ao7, co7, eo7⟩ := Kd.R_slice HO284.out; subst eo7) | ((with_reducible refine gate_dst (N := 14) rfl ?_); refine Kd.N_lit k83 _ 83 ?hg (N' := 14) ?hd (xs := ([(⟨1, y282⟩ : S83)] : List (S83))) (inner := [.int .i64 1, .slice Ao7 y282.length co7]) (ok := (fun k_ => (w.heap.size ≤ k_))) (okp := (fun k_ => (w.heap.size ≤ k_))) ?hr ?hp (fun _ hk => hk) ((show ∀ k_, w5.heap.size ≤ k_ → (fun k_ => (w.heap.size ≤ k_)) k_ from fun k_ hk => (Nat.le_trans (below_size (by with_reducible repeat first | exact HB.out | apply below_alloc | apply pw_below_drewN | apply below_drew1)) hk)) _ (Nat.le_refl _)) (Below.refl _ _) (Nat.le_refl _) (by simp) ?_; (case hd => rfl); (case hg => rfl); (case hr => first | (go_simp; done) | (go_simp; rfl)); (case hp => exact (Reps.c2 (show Kd.FK k83 _ _ (⟨1, y282⟩ : S83) [.int .i64 1, .slice Ao7 y282.length co7] from (k83_mkF _ _ (⟨1, y282⟩ : S83) (Kd.R_reads' (Kd.R_mono (ok' := (fun k_ => (w.heap.size ≤ k_))) (HO284.out) (fun k_ hk => hk.1))).2.1 (Kd.R_F (Kd.R_mono (ok' := (fun k_ => (w.heap.size ≤ k_))) (HO284.out) (fun k_ hk => hk.1))))) (Reps.none _ _))); intro v286 w8 ho9 hb hg_ hnew_; clear hg_ hnew_; (first | rw [← Ny285.out] at ho9 | (simp only [Int.reduceToNat] at ho9; rw [← Ny285.out] at ho9)); have n0_ := Aside0.mk (Kd.N_lower ho9 (below_size (by with_reducible repeat first | exact HB.out | apply below_alloc | apply pw_below_drewN | apply below_drew1))); have n1_ := Aside0.mk (below_step (by with_reducible repeat first | exact HB.out | apply below_alloc | apply pw_below_drewN | apply below_drew1) hb); clear HB; clear HO284; have HO287 := n0_; have HB := n1_; clear n0_ n1_; clear hb ho9))
   go_loopg [5, 17] k (fun kq v5 v17 w' => ∃ (x5_1 : List (S83)) (x17_1 : Int), v17 = .int .i64 x17_1 ∧ Aside0 (comma_numbers.l0 kq a1 x5_1 l0 (l0.length : Int) x17_1 = some r) ∧ Aside0 (kq ≤ k) ∧ Aside0 (Kd.N k83 83 w' w.heap.size (fun k_ => (w.heap.size ≤ k_)) v5 x5_1) ∧ Aside0 (Below w.heap.size w w'))
   case atStart => exact ⟨(y285), (0), (by first | rfl | (simp; done) | (simp [*]; done)), H', ⟨Nat.le_refl _⟩, ⟨by (with_reducible repeat (first | apply Kd.N_alloc | apply Kd.N_drewN | apply Kd.N_drew)); exact HO287.out⟩, ⟨by with_reducible repeat first | exact HB.out | apply below_alloc | apply pw_below_drewN | apply below_drew1⟩⟩
   case round =>
    clear H'
    try clear c2
    try clear p2
    try clear c3
    try clear c3b0
    try clear c3b1
    try clear c4
    try clear c4b0
    try clear c4b1
    obtain ⟨x5_1, x17_1, rfl, HA, HK1, HO_5, HB⟩ := hrel
    cases gk with
    | zero => exact absurd HA.out (by simp [comma_numbers.l0])
    | succ k1 =>
     have H := HA.out
     clear HA
     simp only [comma_numbers.l0] at H
     by_cases c10 : x17_1 < (l0.length : Int)
     ·rw [if_pos c10] at H
      have c10b0 : decide (x17_1 < (l0.length : Int)) = true := decide_eq_true c10
      clear c10
      by_cases c11 : 0 ≤ x17_1
      ·rw [if_pos c11] at H
       have c11b0 : decide (0 ≤ x17_1) = true := decide_eq_true c11
       clear c11
       by_cases c12 : x17_1 < (l0.length : Int)
       ·rw [if_pos c12] at H
        have c12b0 : decide (x17_1 < (l0.length : Int)) = true := decide_eq_true c12
        clear c12
        have H' := Aside0.mk H
        clear H
        have p288 : 0 ≤ (x17_1 : Int) := of_decide_eq_true (by with_reducible assumption)
        have q288 : x17_1 < (l0.length : Int) := of_decide_eq_true (by with_reducible assumption)
        obtain ⟨ad288, e288, hx288_0⟩ := Kd.at_int HR0.out x17_1 p288 q288
        cases e288
        replace hx288_0 := (HB.out.cell (World.block_lt_of_cell? w _ hx288_0)).trans hx288_0
        replace p288 := eq_true p288
        replace q288 := eq_true q288
        go_wp2
        repeat (go_quiet (fail); try go_wp2)
        go_loopg [5, 8] k1 (fun kq v5 v8 w' => ∃ (x5_2 : List (S83)) (x8_2 : Int), v8 = .int .i64 x8_2 ∧ Aside0 (comma_numbers.l1 kq a1 x5_2 x17_1 (rd l0 x17_1) x8_2 l0 (l0.length : Int) x17_1 = some r) ∧ Aside0 (kq ≤ k1) ∧ Aside0 (Kd.N k83 83 w' w.heap.size (fun k_ => (w.heap.size ≤ k_)) v5 x5_2) ∧ Aside0 (Below w.heap.size w w'))
        case atStart => exact ⟨(x5_1), (0), (by first | rfl | (simp; done) | (simp [*]; done)), H', ⟨Nat.le_refl _⟩, ⟨by (with_reducible repeat (first | apply Kd.N_alloc | apply Kd.N_drewN | apply Kd.N_drew)); exact HO_5.out⟩, ⟨by with_reducible repeat first | exact HB.out | apply below_alloc | apply pw_below_drewN | apply below_drew1⟩⟩
        case round =>
         clear H'
         try clear c1
         try clear c2
         try clear p2
         try clear q2
         try clear hx2
         try clear c3
         try clear c3b0
         try clear c3b1
         try clear c4
         try clear c4b0
         try clear c4b1
         try clear c10
         try clear c10b0
         try clear c11
         try clear c11b0
         try clear c12
         try clear c12b0
         try clear hx288_0
         try clear p2
         try clear p288
         try clear q288
         obtain ⟨x5_2, x8_2, rfl, HA, HK2, HO_5, HB⟩ := hrel
         cases gk with
         | zero => exact absurd HA.out (by simp [comma_numbers.l1])
         | succ k2 =>
          have H := HA.out
          clear HA
          simp only [comma_numbers.l1] at H
          by_cases c13 : x8_2 < (x5_2.length : Int)
          ·rw [if_pos c13] at H
           have c13b0 : decide (x8_2 < (x5_2.length : Int)) = true := decide_eq_true c13
           clear c13
           by_cases c14 : 0 ≤ x8_2
           ·rw [if_pos c14] at H
            have c14b0 : decide (0 ≤ x8_2) = true := decide_eq_true c14
            clear c14
            by_cases c15 : (rd l0 x17_1) = 0
            ·rw [if_pos c15] at H
             exact absurd H (by simp)
            ·rw [if_neg c15] at H
             have c15b0 : ((rd l0 x17_1) == 0) = false := beq_eq_false_iff_ne.mpr c15
             have c15b1 : ((rd l0 x17_1) != 0) = true := bne_iff_ne.mpr c15
             by_cases c16 : ((rd_T83 x5_2 x8_2).f0) ≤ (wrap64 (Int.tdiv a1 (rd l0 x17_1)))
             ·rw [if_pos c16] at H
              have c16b0 : decide (((rd_T83 x5_2 x8_2).f0) ≤ (wrap64 (Int.tdiv a1 (rd l0 x17_1)))) = true := decide_eq_true c16
              clear c16
              replace H := Option.bind_eq_some_iff.mp H
              obtain ⟨t291, A170, H⟩ := H
              replace H : (if 0 ≤ x17_1 then (if x17_1 < (t291.length : Int) then (if x5_2.length < 4398046511104 then (comma_numbers.l1 k2 a1 (x5_2 ++ [(⟨wrap64 (((rd_T83 x5_2 x8_2).f0) * (rd l0 x17_1)), (t291.set (x17_1 : Int).toNat (wrap64 ((rd t291 x17_1) + 1)))⟩ : S83)]) x17_1 (rd l0 x17_1) (wrap64 (x8_2 + 1)) l0 (l0.length : Int) x17_1) else (none)) else (none)) else (none)) = some r := H
              have A17 := Aside0.mk A170
              clear A170
              by_cases c18 : 0 ≤ x17_1
              ·rw [if_pos c18] at H
               have c18b0 : decide (0 ≤ x17_1) = true := decide_eq_true c18
               clear c18
               by_cases c19 : x17_1 < (t291.length : Int)
               ·rw [if_pos c19] at H
                have c19b0 : decide (x17_1 < (t291.length : Int)) = true := decide_eq_true c19
                clear c19
                obtain ⟨y295, hy295⟩ : ∃ y_ : List Int, y_ = (t291.set (x17_1 : Int).toNat (wrap64 ((rd t291 x17_1) + 1))) := ⟨_, rfl⟩
                replace H : (if x5_2.length < 4398046511104 then (comma_numbers.l1 k2 a1 (x5_2 ++ [(⟨wrap64 (((rd_T83 x5_2 x8_2).f0) * (rd l0 x17_1)), y295⟩ : S83)]) x17_1 (rd l0 x17_1) (wrap64 (x8_2 + 1)) l0 (l0.length : Int) x17_1) else (none)) = some r := by first | (rw [hy295]; exact H) | exact H
                have Ny295 := Aside0.mk hy295
                clear hy295
                by_cases c21 : x5_2.length < 4398046511104
                ·rw [if_pos c21] at H
                 have LMc21 := Aside0.mk c21
                 clear c21
                 obtain ⟨y297, hy297⟩ : ∃ y_ : List (S83), y_ = (x5_2 ++ [(⟨wrap64 (((rd_T83 x5_2 x8_2).f0) * (rd l0 x17_1)), y295⟩ : S83)]) := ⟨_, rfl⟩
                 replace H : (comma_numbers.l1 k2 a1 y297 x17_1 (rd l0 x17_1) (wrap64 (x8_2 + 1)) l0 (l0.length : Int) x17_1) = some r := by first | (rw [hy297]; exact H) | exact H
                 have Ny297 := Aside0.mk hy297
                 clear hy297
                 have H' := Aside0.mk H
                 clear H
                 obtain ⟨Ao22, co22, eo22⟩ := Kd.N_slice HO_5.out
                 subst eo22
                 have p289 : 0 ≤ (x8_2 : Int) := of_decide_eq_true (by with_reducible assumption)
                 have q289 : x8_2 < (x5_2.length : Int) := of_decide_eq_true (by with_reducible assumption)
                 obtain ⟨ad289, A289_1, c289_1, e289, hx289_0, hx289_1, hl289_1, hi289_1⟩ := at_T83 (Kd.N_reads' HO_5.out).2.2 x8_2 p289 q289
                 cases e289
                 obtain ⟨ce289, hce289, hMe289, hcc289⟩ := Kd.N_get HO_5.out z83 x8_2 p289 (by first | exact q289 | exact of_decide_eq_true (by with_reducible assumption) | (have e_ := (Kd.N_reads' HO_5.out).1; omega))
                 obtain ⟨ua289_1, uc289_1, rfl, ul289_1, ge289_1⟩ := k83_openF hMe289
                 have hv289_1 := hcc289 1 _ rfl
                 rw [add_field _ _ 1 (by omega)] at hv289_1
                 replace hv289_1 := Option.some.inj (hv289_1.symm.trans hx289_1)
                 injection hv289_1 with hva_ hvn_ hvc_
                 rw [hva_] at ge289_1
                 rw [hvc_] at ul289_1
                 have HL289_1 := Aside0.mk (show Kd.V (Kd.int .i64) 3 _ w.heap.size _ _ ((rd_T83 x5_2 x8_2).f1) from Kd.V_mk ul289_1 ge289_1)
                 clear hva_ hvn_ hvc_ ge289_1 ul289_1
                 clear hcc289 hce289
                 have HR289_1 := Aside0.mk hi289_1
                 have HC289_1 := Aside0.mk hl289_1
                 clear hi289_1 hl289_1
                 replace p289 := eq_true p289
                 replace q289 := eq_true q289
                 have p290 : 0 ≤ (x8_2 : Int) := of_decide_eq_true (by with_reducible assumption)
                 have q290 : x8_2 < (x5_2.length : Int) := of_decide_eq_true (by with_reducible assumption)
                 obtain ⟨ad290, A290_1, c290_1, e290, hx290_0, hx290_1, hl290_1, hi290_1⟩ := at_T83 (Kd.N_reads' HO_5.out).2.2 x8_2 p290 q290
                 obtain rfl : ad289 = ad290 := (by injection e290)
                 obtain ⟨ce290, hce290, hMe290, hcc290⟩ := Kd.N_get HO_5.out z83 x8_2 p290 (by first | exact q290 | exact of_decide_eq_true (by with_reducible assumption) | (have e_ := (Kd.N_reads' HO_5.out).1; omega))
                 obtain ⟨ua290_1, uc290_1, rfl, ul290_1, ge290_1⟩ := k83_openF hMe290
                 have hv290_1 := hcc290 1 _ rfl
                 rw [add_field _ _ 1 (by omega)] at hv290_1
                 replace hv290_1 := Option.some.inj (hv290_1.symm.trans hx290_1)
                 injection hv290_1 with hva_ hvn_ hvc_
                 rw [hva_] at ge290_1
                 rw [hvc_] at ul290_1
                 have HL290_1 := Aside0.mk (show Kd.V (Kd.int .i64) 3 _ w.heap.size _ _ ((rd_T83 x5_2 x8_2).f1) from Kd.V_mk ul290_1 ge290_1)
                 clear hva_ hvn_ hvc_ ge290_1 ul290_1
                 clear hcc290 hce290
                 have HR290_1 := Aside0.mk hi290_1
                 have HC290_1 := Aside0.mk hl290_1
                 clear hi290_1 hl290_1
                 replace p290 := eq_true p290
                 replace q290 := eq_true q290
                 have ea_ := Option.some.inj (hx289_1.symm.trans hx290_1)
                 injection ea_ with ea_ en_ ec_
                 subst ea_
                 subst ec_
                 clear en_
                 go_wp2_with (first | (go_at_call 50; (with_reducible refine (g_Clone_Row.calls _ _ ((rd_T83 x5_2 x8_2).f1) t291 _ ?side1 ?side2 A17.out).mono ?_); (case side1 => repeat (first | exact (by repeat (first | (with_reducible exact HR290_1.out) | (with_reducible refine Kd.C_alloc ?_ _) | (with_reducible refine Kd.C_drewN ?_ _) | (with_reducible refine Kd.C_drew ?_) | exact HR290_1.out)) | (with_reducible refine Kd.C_alloc ?_ _) | (with_reducible refine Kd.C_drewN ?_ _) | (with_reducible refine Kd.C_drew ?_))); (case side2 => exact HC290_1.out); rintro e w23 ⟨v292, rfl, ho0, hb⟩; have n0_ := Aside0.mk (Kd.N_elder' (by (with_reducible repeat (first | apply Kd.N_alloc | apply Kd.N_drewN | apply Kd.N_drew)); exact HO_5.out) (Kd.R_base ho0) hb); have n1_ := Aside0.mk (Kd.V_elder' (by (with_reducible repeat (first | apply Kd.V_alloc | apply Kd.V_drewN | apply Kd.V_drew)); exact HL289_1.out) (Kd.R_base ho0) hb); have n2_ := Aside0.mk (Kd.V_elder' (by (with_reducible repeat (first | apply Kd.V_alloc | apply Kd.V_drewN | apply Kd.V_drew)); exact HL290_1.out) (Kd.R_base ho0) hb); have n3_ := Aside0.mk (Kd.R_lower (Kd.R_newM (M := fun k_ => (w.heap.size ≤ k_)) ho0 (below_size (by with_reducible repeat first | exact HB.out | apply below_alloc | apply pw_below_drewN | apply below_drew1)) (fun k_ h_ => h_)) (below_size (by with_reducible repeat first | exact HB.out | apply below_alloc | apply pw_below_drewN | apply below_drew1))); have n4_ := Aside0.mk (Kd.C_below (by repeat (first | (with_reducible exact HR289_1.out) | (with_reducible refine Kd.C_alloc ?_ _) | (with_reducible refine Kd.C_drewN ?_ _) | (with_reducible refine Kd.C_drew ?_) | exact HR289_1.out)) hb); have n5_ := Aside0.mk (Kd.C_below (by repeat (first | (with_reducible exact HR290_1.out) | (with_reducible refine Kd.C_alloc ?_ _) | (with_reducible refine Kd.C_drewN ?_ _) | (with_reducible refine Kd.C_drew ?_) | exact HR290_1.out)) hb); have n6_ := Aside0.mk (below_step (by with_reducible repeat first | exact HB.out | apply below_alloc | apply pw_below_drewN | apply below_drew1) hb); clear HO_5; clear HL289_1; clear HL290_1; clear HR289_1; clear HR290_1; clear HB; have HO_5 := n0_; have HL289_1 := n1_; have HL290_1 := n2_; have HO293 := n3_; have HR289_1 := n4_; have HR290_1 := n5_; have HB := n6_; clear n0_ n1_ n2_ n3_ n4_ n5_ n6_; (try clear hb); (try clear hb2); (try clear hk); (try clear hi); (try clear ho0); obtain ⟨Ao24, co24, eo24⟩ := Kd.R_slice HO293.out; subst eo24; have p294 : 0 ≤ (x17_1 : Int) := of_decide_eq_true (by with_reducible assumption); have q294 : x17_1 < (t291.length : Int) := of_decide_eq_true (by with_reducible assumption); obtain ⟨ad294, e294, hx294_0⟩ := Kd.at_int (Kd.R_reads' HO293.out).2.2 x17_1 p294 q294; cases e294; replace p294 := eq_true p294; replace q294 := eq_true q294; have p20 : 0 ≤ (x17_1 : Int) := of_decide_eq_true (by with_reducible assumption); have q20 : (x17_1 : Int) < ((t291.length : Int) : Int) := of_decide_eq_true (by with_reducible assumption); obtain ⟨go20, co20, eo20, gb20, gl20, cl20, HG20⟩ := Kd.R_form HO293.out (by omega); (first | cases eo20 | (injection eo20 with ea_ en_ ec_; (first | subst ea_ | (injection ea_ with ea_; subst ea_)); subst ec_; clear en_)); have GB20 := Aside0.mk gb20; have GG20 := Aside0.mk HG20; clear gb20 gl20 HG20; (first | simp only [add_plain] at hx294_0 | skip); obtain ⟨hx20_0, hf20_0⟩ := Kd.R_celln 0 HO293.out (x17_1 : Int) p20 q20; replace p20 := eq_true p20; replace q20 := eq_true q20; have n_ := Aside0.mk (Kd.R_mono (ok' := (fun k_ => (w.heap.size ≤ k_))) HO293.out (fun k_ hk => hk.1)); clear HO293; have HO293 := n_; clear n_; obtain ⟨hy25_, hz25_⟩ := Kd.R_celln 0 HO293.out (x17_1 : Int) (of_decide_eq_true (by with_reducible assumption)) (of_decide_eq_true (by with_reducible assumption)); have HP25 := Kd.R_putg HO293.out (x17_1 : Int) (wrap64 ((rd t291 x17_1) + 1))) | ((with_reducible refine gate_store (t := 3) (p := 48) rfl ?_); (try (rw [drewN_self w23]; generalize hq_ : World.drewN w23 _ = w23; have n0_ := Aside0.mk (Kd.N_at hq_ HO_5.out); have n1_ := Aside0.mk (Kd.V_at hq_ HL289_1.out); have n2_ := Aside0.mk (Kd.V_at hq_ HL290_1.out); have n3_ := Aside0.mk (Kd.R_at hq_ HO293.out); have n4_ := Aside0.mk (below_at hq_ HB.out); clear hq_ HO_5 HL289_1 HL290_1 HO293 HB; have HO_5 := n0_; have HL289_1 := n1_; have HL290_1 := n2_; have HO293 := n3_; have HB := n4_; clear n0_ n1_ n2_ n3_ n4_; (try (have n_ := Aside0.mk (Kd.R_mono (ok' := (fun k_ => (w.heap.size ≤ k_))) HO293.out (fun k_ hk => hk.1)); clear HO293; have HO293 := n_; clear n_)); (try (obtain ⟨hy25_, hz25_⟩ := Kd.R_celln 0 HO293.out (x17_1 : Int) (of_decide_eq_true (by with_reducible assumption)) (of_decide_eq_true (by with_reducible assumption)))); (try (have HP25 := Kd.R_putg HO293.out (x17_1 : Int) (wrap64 ((rd t291 x17_1) + 1)))))); refine store_event (t := 3) (p := 48) (v := ?vo_w26) (w1 := (w23.setCell ⟨go20, (x17_1 : Int).toNat, none⟩ (.int .i64 (wrap64 ((rd t291 x17_1) + 1))))) ?hg ?ho ?hn ?hr ?_; (case ho => rfl); (case hg => rfl); (case hn => rfl); (case hr => first | (go_simp; done) | (go_simp; rfl)); intro w26 hw; have hg : w23.grownBy w26 (some go20) := (by rw [hw]; exact HP25.2); have hp_ : Kd.R (Kd.int .i64) 3 w26 w.heap.size (fun k_ => (w.heap.size ≤ k_)) (.slice (some ⟨go20, 0, none⟩) t291.length co24) y295 := (by rw [hw, Ny295.out]; exact HP25.1); clear HP25; have n0_ := Aside0.mk (Kd.N_afterv (v := (.slice (some ⟨go20, 0, none⟩) t291.length co24)) (v1 := (.slice (some ⟨go20, 0, none⟩) t291.length co24)) (ok := (fun k_ => (w.heap.size ≤ k_))) (by (with_reducible repeat (first | apply Kd.N_alloc | apply Kd.N_drewN | apply Kd.N_drew)); exact HO_5.out) hg (.inl rfl)); have n1_ := Aside0.mk (Kd.V_afterv (v := (.slice (some ⟨go20, 0, none⟩) t291.length co24)) (v1 := (.slice (some ⟨go20, 0, none⟩) t291.length co24)) (ok := (fun k_ => (w.heap.size ≤ k_) ∧ some k_ ≠ (.slice (some ad289) x5_2.length co22 : Value).ownBlock)) (by (with_reducible repeat (first | apply Kd.V_alloc | apply Kd.V_drewN | apply Kd.V_drew)); exact HL289_1.out) hg (.inl rfl)); have n2_ := Aside0.mk (Kd.V_afterv (v := (.slice (some ⟨go20, 0, none⟩) t291.length co24)) (v1 := (.slice (some ⟨go20, 0, none⟩) t291.length co24)) (ok := (fun k_ => (w.heap.size ≤ k_) ∧ some k_ ≠ (.slice (some ad289) x5_2.length co22 : Value).ownBlock)) (by (with_reducible repeat (first | apply Kd.V_alloc | apply Kd.V_drewN | apply Kd.V_drew)); exact HL290_1.out) hg (.inl rfl)); have n3_ := Aside0.mk (hp_); have n4_ := Aside0.mk ((by rw [hw]; exact below_set (HB.out) GB20.out : Below w.heap.size w w26)); clear HO_5; clear HL289_1; clear HL290_1; clear HO293; clear HB; have HO_5 := n0_; have HL289_1 := n1_; have HL290_1 := n2_; have HO293 := n3_; have HB := n4_; clear n0_ n1_ n2_ n3_ n4_; clear hg hw hp_; have p296 : 0 ≤ (x8_2 : Int) := of_decide_eq_true (by with_reducible assumption); have q296 : x8_2 < (x5_2.length : Int) := of_decide_eq_true (by with_reducible assumption); obtain ⟨ad296, A296_1, c296_1, e296, hx296_0, hx296_1, hl296_1, hi296_1⟩ := at_T83 (Kd.N_reads' HO_5.out).2.2 x8_2 p296 q296; obtain rfl : ad289 = ad296 := (by injection e296); obtain ⟨ce296, hce296, hMe296, hcc296⟩ := Kd.N_get HO_5.out z83 x8_2 p296 (by first | exact q296 | exact of_decide_eq_true (by with_reducible assumption) | (have e_ := (Kd.N_reads' HO_5.out).1; omega)); obtain ⟨ua296_1, uc296_1, rfl, ul296_1, ge296_1⟩ := k83_openF hMe296; have hv296_1 := hcc296 1 _ rfl; rw [add_field _ _ 1 (by omega)] at hv296_1; replace hv296_1 := Option.some.inj (hv296_1.symm.trans hx296_1); injection hv296_1 with hva_ hvn_ hvc_; rw [hva_] at ge296_1; rw [hvc_] at ul296_1; have HL296_1 := Aside0.mk (show Kd.V (Kd.int .i64) 3 _ w.heap.size _ _ ((rd_T83 x5_2 x8_2).f1) from Kd.V_mk ul296_1 ge296_1); clear hva_ hvn_ hvc_ ge296_1 ul296_1; clear hcc296 hce296; have HR296_1 := Aside0.mk hi296_1; have HC296_1 := Aside0.mk hl296_1; clear hi296_1 hl296_1; replace p296 := eq_true p296; replace q296 := eq_true q296) | ((with_reducible refine gate_builtin (b := .append) (xs := #[.tmp 49, .tmp 59]) rfl ?_); at_builtin; refine Kd.N_append k83 (w0 := w) w.heap.size rfl (.tmp 49) (.tmp 59) 80 83 (.agg #[(.int .i64 0), (.slice none 0 0)]) 32 rfl Tryz.underlying80 info83 rfl (by decide) (by omega) (.slice (some ad289) x5_2.length co22) x5_2 (⟨wrap64 (((rd_T83 x5_2 x8_2).f0) * (rd l0 x17_1)), y295⟩ : S83) [.int .i64 (wrap64 (((rd_T83 x5_2 x8_2).f0) * (rd l0 x17_1))), .slice (some ⟨go20, 0, none⟩) t291.length co24] (fun k_ => (w.heap.size ≤ k_)) (fun k_ => ((fun k_ => (w.heap.size ≤ k_))) k_ ∧ some k_ ≠ (.slice (some ad289) x5_2.length co22 : Value).ownBlock) rfl rfl ?aP (fun _ hk => hk) ?aF ?aO ?aB ?aS ?aL ?_; (case aP => have e_ := (Kd.R_reads' HO293.out).1; rw [e_] at HO293 ⊢; exact (k83_mkF _ _ (⟨wrap64 (((rd_T83 x5_2 x8_2).f0) * (rd l0 x17_1)), y295⟩ : S83) (Kd.R_reads' (Kd.R_mono (ok' := (fun k_ => ((fun k_ => (w.heap.size ≤ k_))) k_ ∧ some k_ ≠ (.slice (some ad289) x5_2.length co22 : Value).ownBlock)) (Kd.R_apart' (HO293.out) (Kd.N_typed HO_5.out) (by decide)) (fun k_ hk => ⟨hk.1, hk.2⟩))).2.1 (Kd.R_F (Kd.R_mono (ok' := (fun k_ => ((fun k_ => (w.heap.size ≤ k_))) k_ ∧ some k_ ≠ (.slice (some ad289) x5_2.length co22 : Value).ownBlock)) (Kd.R_apart' (HO293.out) (Kd.N_typed HO_5.out) (by decide)) (fun k_ hk => ⟨hk.1, hk.2⟩))))); (case aB => exact (by with_reducible repeat first | exact HB.out | apply below_alloc | apply pw_below_drewN | apply below_drew1)); (case aF => exact (fun k_ hk => (Nat.le_trans (below_size (by with_reducible repeat first | exact HB.out | apply below_alloc | apply pw_below_drewN | apply below_drew1)) hk))); (case aO => exact (by (with_reducible repeat (first | apply Kd.N_alloc | apply Kd.N_drewN | apply Kd.N_drew)); exact Kd.N_mono HO_5.out (fun _ hk => hk.1))); (case aS => exact (below_size (by with_reducible repeat first | exact HB.out | apply below_alloc | apply pw_below_drewN | apply below_drew1))); (case aL => have := LMc21.out; omega); intro v298 w27 ho hb hg hat; rw [← Ny297.out] at ho; have n0_ := Aside0.mk (Kd.V_afterv (ok := (fun k_ => (w.heap.size ≤ k_) ∧ some k_ ≠ (.slice (some ⟨go20, 0, none⟩) t291.length co24 : Value).ownBlock)) (by (with_reducible repeat (first | apply Kd.V_alloc | apply Kd.V_drewN | apply Kd.V_drew)); exact Kd.V_mono HL289_1.out (fun _ hk => ⟨⟨hk.1.1, hk.2⟩, hk.1.2⟩)) hg hat); have n1_ := Aside0.mk (Kd.V_afterv (ok := (fun k_ => (w.heap.size ≤ k_) ∧ some k_ ≠ (.slice (some ⟨go20, 0, none⟩) t291.length co24 : Value).ownBlock)) (by (with_reducible repeat (first | apply Kd.V_alloc | apply Kd.V_drewN | apply Kd.V_drew)); exact Kd.V_mono HL290_1.out (fun _ hk => ⟨⟨hk.1.1, hk.2⟩, hk.1.2⟩)) hg hat); have n2_ := Aside0.mk (Kd.V_afterv (ok := (fun k_ => (w.heap.size ≤ k_) ∧ some k_ ≠ (.slice (some ⟨go20, 0, none⟩) t291.length co24 : Value).ownBlock)) (by (with_reducible repeat (first | apply Kd.V_alloc | apply Kd.V_drewN | apply Kd.V_drew)); exact HL296_1.out) hg hat); have n3_ := Aside0.mk (hb); have n4_ := Aside0.mk (ho); clear HL289_1; clear HL290_1; clear HL296_1; clear HB; clear HO_5; clear HO293; have HL289_1 := n0_; have HL290_1 := n1_; have HL296_1 := n2_; have HB := n3_; have HO299 := n4_; clear n0_ n1_ n2_ n3_ n4_; clear ho hb hg hat))
                 repeat (go_quiet (first | (go_at_call 50; (with_reducible refine (g_Clone_Row.calls _ _ ((rd_T83 x5_2 x8_2).f1) t291 _ ?side1 ?side2 A17.out).mono ?_); (case side1 => repeat (first | exact (by repeat (first | (with_reducible exact HR290_1.out) | (with_reducible refine Kd.C_alloc ?_ _) | (with_reducible refine Kd.C_drewN ?_ _) | (with_reducible refine Kd.C_drew ?_) | exact HR290_1.out)) | (with_reducible refine Kd.C_alloc ?_ _) | (with_reducible refine Kd.C_drewN ?_ _) | (with_reducible refine Kd.C_drew ?_))); (case side2 => exact HC290_1.out); rintro e w23 ⟨v292, rfl, ho0, hb⟩; have n0_ := Aside0.mk (Kd.N_elder' (by (with_reducible repeat (first | apply Kd.N_alloc | apply Kd.N_drewN | apply Kd.N_drew)); exact HO_5.out) (Kd.R_base ho0) hb); have n1_ := Aside0.mk (Kd.V_elder' (by (with_reducible repeat (first | apply Kd.V_alloc | apply Kd.V_drewN | apply Kd.V_drew)); exact HL289_1.out) (Kd.R_base ho0) hb); have n2_ := Aside0.mk (Kd.V_elder' (by (with_reducible repeat (first | apply Kd.V_alloc | apply Kd.V_drewN | apply Kd.V_drew)); exact HL290_1.out) (Kd.R_base ho0) hb); have n3_ := Aside0.mk (Kd.R_lower (Kd.R_newM (M := fun k_ => (w.heap.size ≤ k_)) ho0 (below_size (by with_reducible repeat first | exact HB.out | apply below_alloc | apply pw_below_drewN | apply below_drew1)) (fun k_ h_ => h_)) (below_size (by with_reducible repeat first | exact HB.out | apply below_alloc | apply pw_below_drewN | apply below_drew1))); have n4_ := Aside0.mk (Kd.C_below (by repeat (first | (with_reducible exact HR289_1.out) | (with_reducible refine Kd.C_alloc ?_ _) | (with_reducible refine Kd.C_drewN ?_ _) | (with_reducible refine Kd.C_drew ?_) | exact HR289_1.out)) hb); have n5_ := Aside0.mk (Kd.C_below (by repeat (first | (with_reducible exact HR290_1.out) | (with_reducible refine Kd.C_alloc ?_ _) | (with_reducible refine Kd.C_drewN ?_ _) | (with_reducible refine Kd.C_drew ?_) | exact HR290_1.out)) hb); have n6_ := Aside0.mk (below_step (by with_reducible repeat first | exact HB.out | apply below_alloc | apply pw_below_drewN | apply below_drew1) hb); clear HO_5; clear HL289_1; clear HL290_1; clear HR289_1; clear HR290_1; clear HB; have HO_5 := n0_; have HL289_1 := n1_; have HL290_1 := n2_; have HO293 := n3_; have HR289_1 := n4_; have HR290_1 := n5_; have HB := n6_; clear n0_ n1_ n2_ n3_ n4_ n5_ n6_; (try clear hb); (try clear hb2); (try clear hk); (try clear hi); (try clear ho0); obtain ⟨Ao24, co24, eo24⟩ := Kd.R_slice HO293.out; subst eo24; have p294 : 0 ≤ (x17_1 : Int) := of_decide_eq_true (by with_reducible assumption); have q294 : x17_1 < (t291.length : Int) := of_decide_eq_true (by with_reducible assumption); obtain ⟨ad294, e294, hx294_0⟩ := Kd.at_int (Kd.R_reads' HO293.out).2.2 x17_1 p294 q294; cases e294; replace p294 := eq_true p294; replace q294 := eq_true q294; have p20 : 0 ≤ (x17_1 : Int) := of_decide_eq_true (by with_reducible assumption); have q20 : (x17_1 : Int) < ((t291.length : Int) : Int) := of_decide_eq_true (by with_reducible assumption); obtain ⟨go20, co20, eo20, gb20, gl20, cl20, HG20⟩ := Kd.R_form HO293.out (by omega); (first | cases eo20 | (injection eo20 with ea_ en_ ec_; (first | subst ea_ | (injection ea_ with ea_; subst ea_)); subst ec_; clear en_)); have GB20 := Aside0.mk gb20; have GG20 := Aside0.mk HG20; clear gb20 gl20 HG20; (first | simp only [add_plain] at hx294_0 | skip); obtain ⟨hx20_0, hf20_0⟩ := Kd.R_celln 0 HO293.out (x17_1 : Int) p20 q20; replace p20 := eq_true p20; replace q20 := eq_true q20; have n_ := Aside0.mk (Kd.R_mono (ok' := (fun k_ => (w.heap.size ≤ k_))) HO293.out (fun k_ hk => hk.1)); clear HO293; have HO293 := n_; clear n_; obtain ⟨hy25_, hz25_⟩ := Kd.R_celln 0 HO293.out (x17_1 : Int) (of_decide_eq_true (by with_reducible assumption)) (of_decide_eq_true (by with_reducible assumption)); have HP25 := Kd.R_putg HO293.out (x17_1 : Int) (wrap64 ((rd t291 x17_1) + 1))) | ((with_reducible refine gate_store (t := 3) (p := 48) rfl ?_); (try (rw [drewN_self w23]; generalize hq_ : World.drewN w23 _ = w23; have n0_ := Aside0.mk (Kd.N_at hq_ HO_5.out); have n1_ := Aside0.mk (Kd.V_at hq_ HL289_1.out); have n2_ := Aside0.mk (Kd.V_at hq_ HL290_1.out); have n3_ := Aside0.mk (Kd.R_at hq_ HO293.out); have n4_ := Aside0.mk (below_at hq_ HB.out); clear hq_ HO_5 HL289_1 HL290_1 HO293 HB; have HO_5 := n0_; have HL289_1 := n1_; have HL290_1 := n2_; have HO293 := n3_; have HB := n4_; clear n0_ n1_ n2_ n3_ n4_; (try (have n_ := Aside0.mk (Kd.R_mono (ok' := (fun k_ => (w.heap.size ≤ k_))) HO293.out (fun k_ hk => hk.1)); clear HO293; have HO293 := n_; clear n_)); (try (obtain ⟨hy25_, hz25_⟩ := Kd.R_celln 0 HO293.out (x17_1 : Int) (of_decide_eq_true (by with_reducible assumption)) (of_decide_eq_true (by with_reducible assumption)))); (try (have HP25 := Kd.R_putg HO293.out (x17_1 : Int) (wrap64 ((rd t291 x17_1) + 1)))))); refine store_event (t := 3) (p := 48) (v := ?vo_w26) (w1 := (w23.setCell ⟨go20, (x17_1 : Int).toNat, none⟩ (.int .i64 (wrap64 ((rd t291 x17_1) + 1))))) ?hg ?ho ?hn ?hr ?_; (case ho => rfl); (case hg => rfl); (case hn => rfl); (case hr => first | (go_simp; done) | (go_simp; rfl)); intro w26 hw; have hg : w23.grownBy w26 (some go20) := (by rw [hw]; exact HP25.2); have hp_ : Kd.R (Kd.int .i64) 3 w26 w.heap.size (fun k_ => (w.heap.size ≤ k_)) (.slice (some ⟨go20, 0, none⟩) t291.length co24) y295 := (by rw [hw, Ny295.out]; exact HP25.1); clear HP25; have n0_ := Aside0.mk (Kd.N_afterv (v := (.slice (some ⟨go20, 0, none⟩) t291.length co24)) (v1 := (.slice (some ⟨go20, 0, none⟩) t291.length co24)) (ok := (fun k_ => (w.heap.size ≤ k_))) (by (with_reducible repeat (first | apply Kd.N_alloc | apply Kd.N_drewN | apply Kd.N_drew)); exact HO_5.out) hg (.inl rfl)); have n1_ := Aside0.mk (Kd.V_afterv (v := (.slice (some ⟨go20, 0, none⟩) t291.length co24)) (v1 := (.slice (some ⟨go20, 0, none⟩) t291.length co24)) (ok := (fun k_ => (w.heap.size ≤ k_) ∧ some k_ ≠ (.slice (some ad289) x5_2.length co22 : Value).ownBlock)) (by (with_reducible repeat (first | apply Kd.V_alloc | apply Kd.V_drewN | apply Kd.V_drew)); exact HL289_1.out) hg (.inl rfl)); have n2_ := Aside0.mk (Kd.V_afterv (v := (.slice (some ⟨go20, 0, none⟩) t291.length co24)) (v1 := (.slice (some ⟨go20, 0, none⟩) t291.length co24)) (ok := (fun k_ => (w.heap.size ≤ k_) ∧ some k_ ≠ (.slice (some ad289) x5_2.length co22 : Value).ownBlock)) (by (with_reducible repeat (first | apply Kd.V_alloc | apply Kd.V_drewN | apply Kd.V_drew)); exact HL290_1.out) hg (.inl rfl)); have n3_ := Aside0.mk (hp_); have n4_ := Aside0.mk ((by rw [hw]; exact below_set (HB.out) GB20.out : Below w.heap.size w w26)); clear HO_5; clear HL289_1; clear HL290_1; clear HO293; clear HB; have HO_5 := n0_; have HL289_1 := n1_; have HL290_1 := n2_; have HO293 := n3_; have HB := n4_; clear n0_ n1_ n2_ n3_ n4_; clear hg hw hp_; have p296 : 0 ≤ (x8_2 : Int) := of_decide_eq_true (by with_reducible assumption); have q296 : x8_2 < (x5_2.length : Int) := of_decide_eq_true (by with_reducible assumption); obtain ⟨ad296, A296_1, c296_1, e296, hx296_0, hx296_1, hl296_1, hi296_1⟩ := at_T83 (Kd.N_reads' HO_5.out).2.2 x8_2 p296 q296; obtain rfl : ad289 = ad296 := (by injection e296); obtain ⟨ce296, hce296, hMe296, hcc296⟩ := Kd.N_get HO_5.out z83 x8_2 p296 (by first | exact q296 | exact of_decide_eq_true (by with_reducible assumption) | (have e_ := (Kd.N_reads' HO_5.out).1; omega)); obtain ⟨ua296_1, uc296_1, rfl, ul296_1, ge296_1⟩ := k83_openF hMe296; have hv296_1 := hcc296 1 _ rfl; rw [add_field _ _ 1 (by omega)] at hv296_1; replace hv296_1 := Option.some.inj (hv296_1.symm.trans hx296_1); injection hv296_1 with hva_ hvn_ hvc_; rw [hva_] at ge296_1; rw [hvc_] at ul296_1; have HL296_1 := Aside0.mk (show Kd.V (Kd.int .i64) 3 _ w.heap.size _ _ ((rd_T83 x5_2 x8_2).f1) from Kd.V_mk ul296_1 ge296_1); clear hva_ hvn_ hvc_ ge296_1 ul296_1; clear hcc296 hce296; have HR296_1 := Aside0.mk hi296_1; have HC296_1 := Aside0.mk hl296_1; clear hi296_1 hl296_1; replace p296 := eq_true p296; replace q296 := eq_true q296) | ((with_reducible refine gate_builtin (b := .append) (xs := #[.tmp 49, .tmp 59]) rfl ?_); at_builtin; refine Kd.N_append k83 (w0 := w) w.heap.size rfl (.tmp 49) (.tmp 59) 80 83 (.agg #[(.int .i64 0), (.slice none 0 0)]) 32 rfl Tryz.underlying80 info83 rfl (by decide) (by omega) (.slice (some ad289) x5_2.length co22) x5_2 (⟨wrap64 (((rd_T83 x5_2 x8_2).f0) * (rd l0 x17_1)), y295⟩ : S83) [.int .i64 (wrap64 (((rd_T83 x5_2 x8_2).f0) * (rd l0 x17_1))), .slice (some ⟨go20, 0, none⟩) t291.length co24] (fun k_ => (w.heap.size ≤ k_)) (fun k_ => ((fun k_ => (w.heap.size ≤ k_))) k_ ∧ some k_ ≠ (.slice (some ad289) x5_2.length co22 : Value).ownBlock) rfl rfl ?aP (fun _ hk => hk) ?aF ?aO ?aB ?aS ?aL ?_; (case aP => have e_ := (Kd.R_reads' HO293.out).1; rw [e_] at HO293 ⊢; exact (k83_mkF _ _ (⟨wrap64 (((rd_T83 x5_2 x8_2).f0) * (rd l0 x17_1)), y295⟩ : S83) (Kd.R_reads' (Kd.R_mono (ok' := (fun k_ => ((fun k_ => (w.heap.size ≤ k_))) k_ ∧ some k_ ≠ (.slice (some ad289) x5_2.length co22 : Value).ownBlock)) (Kd.R_apart' (HO293.out) (Kd.N_typed HO_5.out) (by decide)) (fun k_ hk => ⟨hk.1, hk.2⟩))).2.1 (Kd.R_F (Kd.R_mono (ok' := (fun k_ => ((fun k_ => (w.heap.size ≤ k_))) k_ ∧ some k_ ≠ (.slice (some ad289) x5_2.length co22 : Value).ownBlock)) (Kd.R_apart' (HO293.out) (Kd.N_typed HO_5.out) (by decide)) (fun k_ hk => ⟨hk.1, hk.2⟩))))); (case aB => exact (by with_reducible repeat first | exact HB.out | apply below_alloc | apply pw_below_drewN | apply below_drew1)); (case aF => exact (fun k_ hk => (Nat.le_trans (below_size (by with_reducible repeat first | exact HB.out | apply below_alloc | apply pw_below_drewN | apply below_drew1)) hk))); (case aO => exact (by (with_reducible repeat (first | apply Kd.N_alloc | apply Kd.N_drewN | apply Kd.N_drew)); exact Kd.N_mono HO_5.out (fun _ hk => hk.1))); (case aS => exact (below_size (by with_reducible repeat first | exact HB.out | apply below_alloc | apply pw_below_drewN | apply below_drew1))); (case aL => have := LMc21.out; omega); intro v298 w27 ho hb hg hat; rw [← Ny297.out] at ho; have n0_ := Aside0.mk (Kd.V_afterv (ok := (fun k_ => (w.heap.size ≤ k_) ∧ some k_ ≠ (.slice (some ⟨go20, 0, none⟩) t291.length co24 : Value).ownBlock)) (by (with_reducible repeat (first | apply Kd.V_alloc | apply Kd.V_drewN | apply Kd.V_drew)); exact Kd.V_mono HL289_1.out (fun _ hk => ⟨⟨hk.1.1, hk.2⟩, hk.1.2⟩)) hg hat); have n1_ := Aside0.mk (Kd.V_afterv (ok := (fun k_ => (w.heap.size ≤ k_) ∧ some k_ ≠ (.slice (some ⟨go20, 0, none⟩) t291.length co24 : Value).ownBlock)) (by (with_reducible repeat (first | apply Kd.V_alloc | apply Kd.V_drewN | apply Kd.V_drew)); exact Kd.V_mono HL290_1.out (fun _ hk => ⟨⟨hk.1.1, hk.2⟩, hk.1.2⟩)) hg hat); have n2_ := Aside0.mk (Kd.V_afterv (ok := (fun k_ => (w.heap.size ≤ k_) ∧ some k_ ≠ (.slice (some ⟨go20, 0, none⟩) t291.length co24 : Value).ownBlock)) (by (with_reducible repeat (first | apply Kd.V_alloc | apply Kd.V_drewN | apply Kd.V_drew)); exact HL296_1.out) hg hat); have n3_ := Aside0.mk (hb); have n4_ := Aside0.mk (ho); clear HL289_1; clear HL290_1; clear HL296_1; clear HB; clear HO_5; clear HO293; have HL289_1 := n0_; have HL290_1 := n1_; have HL296_1 := n2_; have HB := n3_; have HO299 := n4_; clear n0_ n1_ n2_ n3_ n4_; clear ho hb hg hat)); try go_wp2_with (first | (go_at_call 50; (with_reducible refine (g_Clone_Row.calls _ _ ((rd_T83 x5_2 x8_2).f1) t291 _ ?side1 ?side2 A17.out).mono ?_); (case side1 => repeat (first | exact (by repeat (first | (with_reducible exact HR290_1.out) | (with_reducible refine Kd.C_alloc ?_ _) | (with_reducible refine Kd.C_drewN ?_ _) | (with_reducible refine Kd.C_drew ?_) | exact HR290_1.out)) | (with_reducible refine Kd.C_alloc ?_ _) | (with_reducible refine Kd.C_drewN ?_ _) | (with_reducible refine Kd.C_drew ?_))); (case side2 => exact HC290_1.out); rintro e w23 ⟨v292, rfl, ho0, hb⟩; have n0_ := Aside0.mk (Kd.N_elder' (by (with_reducible repeat (first | apply Kd.N_alloc | apply Kd.N_drewN | apply Kd.N_drew)); exact HO_5.out) (Kd.R_base ho0) hb); have n1_ := Aside0.mk (Kd.V_elder' (by (with_reducible repeat (first | apply Kd.V_alloc | apply Kd.V_drewN | apply Kd.V_drew)); exact HL289_1.out) (Kd.R_base ho0) hb); have n2_ := Aside0.mk (Kd.V_elder' (by (with_reducible repeat (first | apply Kd.V_alloc | apply Kd.V_drewN | apply Kd.V_drew)); exact HL290_1.out) (Kd.R_base ho0) hb); have n3_ := Aside0.mk (Kd.R_lower (Kd.R_newM (M := fun k_ => (w.heap.size ≤ k_)) ho0 (below_size (by with_reducible repeat first | exact HB.out | apply below_alloc | apply pw_below_drewN | apply below_drew1)) (fun k_ h_ => h_)) (below_size (by with_reducible repeat first | exact HB.out | apply below_alloc | apply pw_below_drewN | apply below_drew1))); have n4_ := Aside0.mk (Kd.C_below (by repeat (first | (with_reducible exact HR289_1.out) | (with_reducible refine Kd.C_alloc ?_ _) | (with_reducible refine Kd.C_drewN ?_ _) | (with_reducible refine Kd.C_drew ?_) | exact HR289_1.out)) hb); have n5_ := Aside0.mk (Kd.C_below (by repeat (first | (with_reducible exact HR290_1.out) | (with_reducible refine Kd.C_alloc ?_ _) | (with_reducible refine Kd.C_drewN ?_ _) | (with_reducible refine Kd.C_drew ?_) | exact HR290_1.out)) hb); have n6_ := Aside0.mk (below_step (by with_reducible repeat first | exact HB.out | apply below_alloc | apply pw_below_drewN | apply below_drew1) hb); clear HO_5; clear HL289_1; clear HL290_1; clear HR289_1; clear HR290_1; clear HB; have HO_5 := n0_; have HL289_1 := n1_; have HL290_1 := n2_; have HO293 := n3_; have HR289_1 := n4_; have HR290_1 := n5_; have HB := n6_; clear n0_ n1_ n2_ n3_ n4_ n5_ n6_; (try clear hb); (try clear hb2); (try clear hk); (try clear hi); (try clear ho0); obtain ⟨Ao24, co24, eo24⟩ := Kd.R_slice HO293.out; subst eo24; have p294 : 0 ≤ (x17_1 : Int) := of_decide_eq_true (by with_reducible assumption); have q294 : x17_1 < (t291.length : Int) := of_decide_eq_true (by with_reducible assumption); obtain ⟨ad294, e294, hx294_0⟩ := Kd.at_int (Kd.R_reads' HO293.out).2.2 x17_1 p294 q294; cases e294; replace p294 := eq_true p294; replace q294 := eq_true q294; have p20 : 0 ≤ (x17_1 : Int) := of_decide_eq_true (by with_reducible assumption); have q20 : (x17_1 : Int) < ((t291.length : Int) : Int) := of_decide_eq_true (by with_reducible assumption); obtain ⟨go20, co20, eo20, gb20, gl20, cl20, HG20⟩ := Kd.R_form HO293.out (by omega); (first | cases eo20 | (injection eo20 with ea_ en_ ec_; (first | subst ea_ | (injection ea_ with ea_; subst ea_)); subst ec_; clear en_)); have GB20 := Aside0.mk gb20; have GG20 := Aside0.mk HG20; clear gb20 gl20 HG20; (first | simp only [add_plain] at hx294_0 | skip); obtain ⟨hx20_0, hf20_0⟩ := Kd.R_celln 0 HO293.out (x17_1 : Int) p20 q20; replace p20 := eq_true p20; replace q20 := eq_true q20; have n_ := Aside0.mk (Kd.R_mono (ok' := (fun k_ => (w.heap.size ≤ k_))) HO293.out (fun k_ hk => hk.1)); clear HO293; have HO293 := n_; clear n_; obtain ⟨hy25_, hz25_⟩ := Kd.R_celln 0 HO293.out (x17_1 : Int) (of_decide_eq_true (by with_reducible assumption)) (of_decide_eq_true (by with_reducible assumption)); have HP25 := Kd.R_putg HO293.out (x17_1 : Int) (wrap64 ((rd t291 x17_1) + 1))) | ((with_reducible refine gate_store (t := 3) (p := 48) rfl ?_); (try (rw [drewN_self w23]; generalize hq_ : World.drewN w23 _ = w23; have n0_ := Aside0.mk (Kd.N_at hq_ HO_5.out); have n1_ := Aside0.mk (Kd.V_at hq_ HL289_1.out); have n2_ := Aside0.mk (Kd.V_at hq_ HL290_1.out); have n3_ := Aside0.mk (Kd.R_at hq_ HO293.out); have n4_ := Aside0.mk (below_at hq_ HB.out); clear hq_ HO_5 HL289_1 HL290_1 HO293 HB; have HO_5 := n0_; have HL289_1 := n1_; have HL290_1 := n2_; have HO293 := n3_; have HB := n4_; clear n0_ n1_ n2_ n3_ n4_; (try (have n_ := Aside0.mk (Kd.R_mono (ok' := (fun k_ => (w.heap.size ≤ k_))) HO293.out (fun k_ hk => hk.1)); clear HO293; have HO293 := n_; clear n_)); (try (obtain ⟨hy25_, hz25_⟩ := Kd.R_celln 0 HO293.out (x17_1 : Int) (of_decide_eq_true (by with_reducible assumption)) (of_decide_eq_true (by with_reducible assumption)))); (try (have HP25 := Kd.R_putg HO293.out (x17_1 : Int) (wrap64 ((rd t291 x17_1) + 1)))))); refine store_event (t := 3) (p := 48) (v := ?vo_w26) (w1 := (w23.setCell ⟨go20, (x17_1 : Int).toNat, none⟩ (.int .i64 (wrap64 ((rd t291 x17_1) + 1))))) ?hg ?ho ?hn ?hr ?_; (case ho => rfl); (case hg => rfl); (case hn => rfl); (case hr => first | (go_simp; done) | (go_simp; rfl)); intro w26 hw; have hg : w23.grownBy w26 (some go20) := (by rw [hw]; exact HP25.2); have hp_ : Kd.R (Kd.int .i64) 3 w26 w.heap.size (fun k_ => (w.heap.size ≤ k_)) (.slice (some ⟨go20, 0, none⟩) t291.length co24) y295 := (by rw [hw, Ny295.out]; exact HP25.1); clear HP25; have n0_ := Aside0.mk (Kd.N_afterv (v := (.slice (some ⟨go20, 0, none⟩) t291.length co24)) (v1 := (.slice (some ⟨go20, 0, none⟩) t291.length co24)) (ok := (fun k_ => (w.heap.size ≤ k_))) (by (with_reducible repeat (first | apply Kd.N_alloc | apply Kd.N_drewN | apply Kd.N_drew)); exact HO_5.out) hg (.inl rfl)); have n1_ := Aside0.mk (Kd.V_afterv (v := (.slice (some ⟨go20, 0, none⟩) t291.length co24)) (v1 := (.slice (some ⟨go20, 0, none⟩) t291.length co24)) (ok := (fun k_ => (w.heap.size ≤ k_) ∧ some k_ ≠ (.slice (some ad289) x5_2.length co22 : Value).ownBlock)) (by (with_reducible repeat (first | apply Kd.V_alloc | apply Kd.V_drewN | apply Kd.V_drew)); exact HL289_1.out) hg (.inl rfl)); have n2_ := Aside0.mk (Kd.V_afterv (v := (.slice (some ⟨go20, 0, none⟩) t291.length co24)) (v1 := (.slice (some ⟨go20, 0, none⟩) t291.length co24)) (ok := (fun k_ => (w.heap.size ≤ k_) ∧ some k_ ≠ (.slice (some ad289) x5_2.length co22 : Value).ownBlock)) (by (with_reducible repeat (first | apply Kd.V_alloc | apply Kd.V_drewN | apply Kd.V_drew)); exact HL290_1.out) hg (.inl rfl)); have n3_ := Aside0.mk (hp_); have n4_ := Aside0.mk ((by rw [hw]; exact below_set (HB.out) GB20.out : Below w.heap.size w w26)); clear HO_5; clear HL289_1; clear HL290_1; clear HO293; clear HB; have HO_5 := n0_; have HL289_1 := n1_; have HL290_1 := n2_; have HO293 := n3_; have HB := n4_; clear n0_ n1_ n2_ n3_ n4_; clear hg hw hp_; have p296 : 0 ≤ (x8_2 : Int) := of_decide_eq_true (by with_reducible assumption); have q296 : x8_2 < (x5_2.length : Int) := of_decide_eq_true (by with_reducible assumption); obtain ⟨ad296, A296_1, c296_1, e296, hx296_0, hx296_1, hl296_1, hi296_1⟩ := at_T83 (Kd.N_reads' HO_5.out).2.2 x8_2 p296 q296; obtain rfl : ad289 = ad296 := (by injection e296); obtain ⟨ce296, hce296, hMe296, hcc296⟩ := Kd.N_get HO_5.out z83 x8_2 p296 (by first | exact q296 | exact of_decide_eq_true (by with_reducible assumption) | (have e_ := (Kd.N_reads' HO_5.out).1; omega)); obtain ⟨ua296_1, uc296_1, rfl, ul296_1, ge296_1⟩ := k83_openF hMe296; have hv296_1 := hcc296 1 _ rfl; rw [add_field _ _ 1 (by omega)] at hv296_1; replace hv296_1 := Option.some.inj (hv296_1.symm.trans hx296_1); injection hv296_1 with hva_ hvn_ hvc_; rw [hva_] at ge296_1; rw [hvc_] at ul296_1; have HL296_1 := Aside0.mk (show Kd.V (Kd.int .i64) 3 _ w.heap.size _ _ ((rd_T83 x5_2 x8_2).f1) from Kd.V_mk ul296_1 ge296_1); clear hva_ hvn_ hvc_ ge296_1 ul296_1; clear hcc296 hce296; have HR296_1 := Aside0.mk hi296_1; have HC296_1 := Aside0.mk hl296_1; clear hi296_1 hl296_1; replace p296 := eq_true p296; replace q296 := eq_true q296) | ((with_reducible refine gate_builtin (b := .append) (xs := #[.tmp 49, .tmp 59]) rfl ?_); at_builtin; refine Kd.N_append k83 (w0 := w) w.heap.size rfl (.tmp 49) (.tmp 59) 80 83 (.agg #[(.int .i64 0), (.slice none 0 0)]) 32 rfl Tryz.underlying80 info83 rfl (by decide) (by omega) (.slice (some ad289) x5_2.length co22) x5_2 (⟨wrap64 (((rd_T83 x5_2 x8_2).f0) * (rd l0 x17_1)), y295⟩ : S83) [.int .i64 (wrap64 (((rd_T83 x5_2 x8_2).f0) * (rd l0 x17_1))), .slice (some ⟨go20, 0, none⟩) t291.length co24] (fun k_ => (w.heap.size ≤ k_)) (fun k_ => ((fun k_ => (w.heap.size ≤ k_))) k_ ∧ some k_ ≠ (.slice (some ad289) x5_2.length co22 : Value).ownBlock) rfl rfl ?aP (fun _ hk => hk) ?aF ?aO ?aB ?aS ?aL ?_; (case aP => have e_ := (Kd.R_reads' HO293.out).1; rw [e_] at HO293 ⊢; exact (k83_mkF _ _ (⟨wrap64 (((rd_T83 x5_2 x8_2).f0) * (rd l0 x17_1)), y295⟩ : S83) (Kd.R_reads' (Kd.R_mono (ok' := (fun k_ => ((fun k_ => (w.heap.size ≤ k_))) k_ ∧ some k_ ≠ (.slice (some ad289) x5_2.length co22 : Value).ownBlock)) (Kd.R_apart' (HO293.out) (Kd.N_typed HO_5.out) (by decide)) (fun k_ hk => ⟨hk.1, hk.2⟩))).2.1 (Kd.R_F (Kd.R_mono (ok' := (fun k_ => ((fun k_ => (w.heap.size ≤ k_))) k_ ∧ some k_ ≠ (.slice (some ad289) x5_2.length co22 : Value).ownBlock)) (Kd.R_apart' (HO293.out) (Kd.N_typed HO_5.out) (by decide)) (fun k_ hk => ⟨hk.1, hk.2⟩))))); (case aB => exact (by with_reducible repeat first | exact HB.out | apply below_alloc | apply pw_below_drewN | apply below_drew1)); (case aF => exact (fun k_ hk => (Nat.le_trans (below_size (by with_reducible repeat first | exact HB.out | apply below_alloc | apply pw_below_drewN | apply below_drew1)) hk))); (case aO => exact (by (with_reducible repeat (first | apply Kd.N_alloc | apply Kd.N_drewN | apply Kd.N_drew)); exact Kd.N_mono HO_5.out (fun _ hk => hk.1))); (case aS => exact (below_size (by with_reducible repeat first | exact HB.out | apply below_alloc | apply pw_below_drewN | apply below_drew1))); (case aL => have := LMc21.out; omega); intro v298 w27 ho hb hg hat; rw [← Ny297.out] at ho; have n0_ := Aside0.mk (Kd.V_afterv (ok := (fun k_ => (w.heap.size ≤ k_) ∧ some k_ ≠ (.slice (some ⟨go20, 0, none⟩) t291.length co24 : Value).ownBlock)) (by (with_reducible repeat (first | apply Kd.V_alloc | apply Kd.V_drewN | apply Kd.V_drew)); exact Kd.V_mono HL289_1.out (fun _ hk => ⟨⟨hk.1.1, hk.2⟩, hk.1.2⟩)) hg hat); have n1_ := Aside0.mk (Kd.V_afterv (ok := (fun k_ => (w.heap.size ≤ k_) ∧ some k_ ≠ (.slice (some ⟨go20, 0, none⟩) t291.length co24 : Value).ownBlock)) (by (with_reducible repeat (first | apply Kd.V_alloc | apply Kd.V_drewN | apply Kd.V_drew)); exact Kd.V_mono HL290_1.out (fun _ hk => ⟨⟨hk.1.1, hk.2⟩, hk.1.2⟩)) hg hat); have n2_ := Aside0.mk (Kd.V_afterv (ok := (fun k_ => (w.heap.size ≤ k_) ∧ some k_ ≠ (.slice (some ⟨go20, 0, none⟩) t291.length co24 : Value).ownBlock)) (by (with_reducible repeat (first | apply Kd.V_alloc | apply Kd.V_drewN | apply Kd.V_drew)); exact HL296_1.out) hg hat); have n3_ := Aside0.mk (hb); have n4_ := Aside0.mk (ho); clear HL289_1; clear HL290_1; clear HL296_1; clear HB; clear HO_5; clear HO293; have HL289_1 := n0_; have HL290_1 := n1_; have HL296_1 := n2_; have HB := n3_; have HO299 := n4_; clear n0_ n1_ n2_ n3_ n4_; clear ho hb hg hat)))
                 go_roundg k2
                 case measure => have := HK1.out; have := HK2.out; omega
                 case rel => exact ⟨(y297), (wrap64 (x8_2 + 1)), (by first | rfl | (simp; done) | (simp [*]; done)), H', ⟨by have := HK1.out; have := HK2.out; omega⟩, ⟨by (with_reducible repeat (first | apply Kd.N_alloc | apply Kd.N_drewN | apply Kd.N_drew)); exact HO299.out⟩, ⟨by with_reducible repeat first | exact HB.out | apply below_alloc | apply pw_below_drewN | apply below_drew1⟩⟩
                ·rw [if_neg c21] at H
                 exact absurd H (by simp)
               ·rw [if_neg c19] at H
                exact absurd H (by simp)
              ·rw [if_neg c18] at H
               exact absurd H (by simp)
             ·rw [if_neg c16] at H
              have c16b0 : decide (((rd_T83 x5_2 x8_2).f0) ≤ (wrap64 (Int.tdiv a1 (rd l0 x17_1)))) = false := decide_eq_false c16
              clear c16
              have H' := Aside0.mk H
              clear H
              obtain ⟨Ao28, co28, eo28⟩ := Kd.N_slice HO_5.out
              subst eo28
              have p289 : 0 ≤ (x8_2 : Int) := of_decide_eq_true (by with_reducible assumption)
              have q289 : x8_2 < (x5_2.length : Int) := of_decide_eq_true (by with_reducible assumption)
              obtain ⟨ad289, A289_1, c289_1, e289, hx289_0, hx289_1, hl289_1, hi289_1⟩ := at_T83 (Kd.N_reads' HO_5.out).2.2 x8_2 p289 q289
              cases e289
              obtain ⟨ce289, hce289, hMe289, hcc289⟩ := Kd.N_get HO_5.out z83 x8_2 p289 (by first | exact q289 | exact of_decide_eq_true (by with_reducible assumption) | (have e_ := (Kd.N_reads' HO_5.out).1; omega))
              obtain ⟨ua289_1, uc289_1, rfl, ul289_1, ge289_1⟩ := k83_openF hMe289
              have hv289_1 := hcc289 1 _ rfl
              rw [add_field _ _ 1 (by omega)] at hv289_1
              replace hv289_1 := Option.some.inj (hv289_1.symm.trans hx289_1)
              injection hv289_1 with hva_ hvn_ hvc_
              rw [hva_] at ge289_1
              rw [hvc_] at ul289_1
              have HL289_1 := Aside0.mk (show Kd.V (Kd.int .i64) 3 _ w.heap.size _ _ ((rd_T83 x5_2 x8_2).f1) from Kd.V_mk ul289_1 ge289_1)
              clear hva_ hvn_ hvc_ ge289_1 ul289_1
              clear hcc289 hce289
              have HR289_1 := Aside0.mk hi289_1
              have HC289_1 := Aside0.mk hl289_1
              clear hi289_1 hl289_1
              replace p289 := eq_true p289
              replace q289 := eq_true q289
              go_wp2
              repeat (go_quiet (fail); try go_wp2)
              go_roundg k2
              case measure => have := HK1.out; have := HK2.out; omega
              case rel => exact ⟨(x5_2), (wrap64 (x8_2 + 1)), (by first | rfl | (simp; done) | (simp [*]; done)), H', ⟨by have := HK1.out; have := HK2.out; omega⟩, ⟨by (with_reducible repeat (first | apply Kd.N_alloc | apply Kd.N_drewN | apply Kd.N_drew)); exact HO_5.out⟩, ⟨by with_reducible repeat first | exact HB.out | apply below_alloc | apply pw_below_drewN | apply below_drew1⟩⟩
           ·rw [if_neg c14] at H
            exact absurd H (by simp)
          ·rw [if_neg c13] at H
           have c13b0 : decide (x8_2 < (x5_2.length : Int)) = false := decide_eq_false c13
           clear c13
           have H' := Aside0.mk H
           clear H
           obtain ⟨Ao29, co29, eo29⟩ := Kd.N_slice HO_5.out
           subst eo29
           go_wp2
           repeat (go_quiet (fail); try go_wp2)
           go_roundg k2
           case measure => have := HK1.out; have := HK2.out; omega
           case rel => exact ⟨(x5_2), (wrap64 (x17_1 + 1)), (by first | rfl | (simp; done) | (simp [*]; done)), H', ⟨by have := HK1.out; have := HK2.out; omega⟩, ⟨by (with_reducible repeat (first | apply Kd.N_alloc | apply Kd.N_drewN | apply Kd.N_drew)); exact HO_5.out⟩, ⟨by with_reducible repeat first | exact HB.out | apply below_alloc | apply pw_below_drewN | apply below_drew1⟩⟩
       ·rw [if_neg c12] at H
        exact absurd H (by simp)
      ·rw [if_neg c11] at H
       exact absurd H (by simp)
     ·rw [if_neg c10] at H
      have c10b0 : decide (x17_1 < (l0.length : Int)) = false := decide_eq_false c10
      clear c10
      replace H := Option.bind_eq_some_iff.mp H
      obtain ⟨z_, A300, H⟩ := H
      replace H : (some z_) = some r := H
      have A30 := Aside0.mk A300
      clear A300
      obtain rfl := Option.some.inj H
      obtain ⟨Ao31, co31, eo31⟩ := Kd.N_slice HO_5.out
      subst eo31
      go_wp2_with (go_at_call 76; (with_reducible refine (g_sort_smooth.calls (by (with_reducible repeat (first | apply Kd.N_alloc | apply Kd.N_drewN | apply Kd.N_drew)); exact HO_5.out) A30.out).mono ?_); rintro e w9_ ⟨rfl, HO9_, hb9_, hg9_⟩)
      go_ret
      exact ⟨_, rfl, HO9_, Below.trans (by with_reducible repeat first | exact HB.out | apply below_alloc | apply pw_below_drewN | apply below_drew1) hb9_⟩
  ·rw [if_neg c4] at H
   exact absurd H (by simp)
 ·rw [if_neg c3] at H
  exact absurd H (by simp)
mutual
def schismalaw16_exponents.l0 : Nat → List Int → Int → List Int → Int → Option (List Int × Bool)
 | 0, _, _, _, _ => none
 | k + 1, x0, x1, x6, x7 => if x7 < (x0.length : Int) then (schismalaw16_exponents.l1 k x0 x1 x6 x7 0) else (some (x6, (x1 == 1)))
def schismalaw16_exponents.l1 : Nat → List Int → Int → List Int → Int → Int → Option (List Int × Bool)
 | 0, _, _, _, _, _ => none
 | k + 1, x0, x1, x6, x7, x8 => if 0 ≤ x7 then (if x7 < (x0.length : Int) then (if (rd x0 x7) = 0 then (none) else (if (Int.tmod x1 (rd x0 x7)) = 0 then (schismalaw16_exponents.l1 k x0 (wrap64 (Int.tdiv x1 (rd x0 x7))) x6 x7 (wrap64 (x8 + 1))) else (if x6.length < 17592186044416 then (schismalaw16_exponents.l0 k x0 x1 (x6 ++ [x8]) (wrap64 (x7 + 1))) else (none)))) else (none)) else (none)
end
def schismalaw16_exponents.f (k : Nat) (l0 : List Int) (a1 : Int) : Option (List Int × Bool) := schismalaw16_exponents.l0 k l0 a1 ([] : List Int) 0
theorem schismalaw16_exponents.mono_l : ∀ k, (∀ y0 y1 y2 y3, LeO (schismalaw16_exponents.l0 k y0 y1 y2 y3) (schismalaw16_exponents.l0 (k + 1) y0 y1 y2 y3)) ∧ (∀ y0 y1 y2 y3 y4, LeO (schismalaw16_exponents.l1 k y0 y1 y2 y3 y4) (schismalaw16_exponents.l1 (k + 1) y0 y1 y2 y3 y4))
 | 0 => ⟨fun _ _ _ _ r h => by simp [schismalaw16_exponents.l0] at h, fun _ _ _ _ _ r h => by simp [schismalaw16_exponents.l1] at h⟩
 | k + 1 => by
  obtain ⟨ih0, ih1⟩ := schismalaw16_exponents.mono_l k
  refine ⟨?_, ?_⟩
  ·intro y0 y1 y2 y3
   unfold schismalaw16_exponents.l0
   repeat' first
   | (with_reducible exact ih0 _ _ _ _)
   | (with_reducible exact ih1 _ _ _ _ _)
   | (with_reducible exact LeO.refl _)
   | (with_reducible exact LeO.none _)
   | (with_reducible refine LeO.ite ?_ ?_)
   | (with_reducible refine LeO.bind ?_ (fun _ => ?_))
   | refine LeO.ite ?_ ?_
   | refine LeO.bind ?_ (fun _ => ?_)
  ·intro y0 y1 y2 y3 y4
   unfold schismalaw16_exponents.l1
   repeat' first
   | (with_reducible exact ih0 _ _ _ _)
   | (with_reducible exact ih1 _ _ _ _ _)
   | (with_reducible exact LeO.refl _)
   | (with_reducible exact LeO.none _)
   | (with_reducible refine LeO.ite ?_ ?_)
   | (with_reducible refine LeO.bind ?_ (fun _ => ?_))
   | refine LeO.ite ?_ ?_
   | refine LeO.bind ?_ (fun _ => ?_)
theorem schismalaw16_exponents.mono : ∀ a0 a1 k, LeO (schismalaw16_exponents.f k a0 a1) (schismalaw16_exponents.f (k + 1) a0 a1) := by
 intro a0 a1 k
 obtain ⟨ih0, ih1⟩ := schismalaw16_exponents.mono_l k
 unfold schismalaw16_exponents.f
 repeat' first
   | (with_reducible exact ih0 _ _ _ _)
   | (with_reducible exact ih1 _ _ _ _ _)
   | (with_reducible exact LeO.refl _)
   | (with_reducible exact LeO.none _)
   | (with_reducible refine LeO.ite ?_ ?_)
   | (with_reducible refine LeO.bind ?_ (fun _ => ?_))
   | refine LeO.ite ?_ ?_
   | refine LeO.bind ?_ (fun _ => ?_)
mutual
def prime_IsPrime.j0 : Nat → Int → Bool → Option (Bool)
 | 0, _, _ => none
 | k + 1, x0, x9 => if x9 = true then (some false) else (prime_IsPrime.l0 k x0 2)
def prime_IsPrime.l0 : Nat → Int → Int → Option (Bool)
 | 0, _, _ => none
 | k + 1, x0, x3 => if (wrap64 (x3 * x3)) ≤ x0 then (if x3 = 0 then (none) else (if (Int.tmod x0 x3) = 0 then (some false) else (prime_IsPrime.l0 k x0 (wrap64 (x3 + 1))))) else (some true)
end
def prime_IsPrime.f (k : Nat) (a0 : Int) : Option (Bool) := if a0 < 2 then (prime_IsPrime.j0 k a0 true) else (prime_IsPrime.j0 k a0 (decide (a0 > 97)))
theorem prime_IsPrime.mono_l : ∀ k, (∀ y0 y1, LeO (prime_IsPrime.j0 k y0 y1) (prime_IsPrime.j0 (k + 1) y0 y1)) ∧ (∀ y0 y1, LeO (prime_IsPrime.l0 k y0 y1) (prime_IsPrime.l0 (k + 1) y0 y1))
 | 0 => ⟨fun _ _ r h => by simp [prime_IsPrime.j0] at h, fun _ _ r h => by simp [prime_IsPrime.l0] at h⟩
 | k + 1 => by
  obtain ⟨ih0, ih1⟩ := prime_IsPrime.mono_l k
  refine ⟨?_, ?_⟩
  ·intro y0 y1
   unfold prime_IsPrime.j0
   repeat' first
   | (with_reducible exact ih0 _ _)
   | (with_reducible exact ih1 _ _)
   | (with_reducible exact LeO.refl _)
   | (with_reducible exact LeO.none _)
   | (with_reducible refine LeO.ite ?_ ?_)
   | (with_reducible refine LeO.bind ?_ (fun _ => ?_))
   | refine LeO.ite ?_ ?_
   | refine LeO.bind ?_ (fun _ => ?_)
  ·intro y0 y1
   unfold prime_IsPrime.l0
   repeat' first
   | (with_reducible exact ih0 _ _)
   | (with_reducible exact ih1 _ _)
   | (with_reducible exact LeO.refl _)
   | (with_reducible exact LeO.none _)
   | (with_reducible refine LeO.ite ?_ ?_)
   | (with_reducible refine LeO.bind ?_ (fun _ => ?_))
   | refine LeO.ite ?_ ?_
   | refine LeO.bind ?_ (fun _ => ?_)
theorem prime_IsPrime.mono : ∀ a0 k, LeO (prime_IsPrime.f k a0) (prime_IsPrime.f (k + 1) a0) := by
 intro a0 k
 obtain ⟨ih0, ih1⟩ := prime_IsPrime.mono_l k
 unfold prime_IsPrime.f
 repeat' first
   | (with_reducible exact ih0 _ _)
   | (with_reducible exact ih1 _ _)
   | (with_reducible exact LeO.refl _)
   | (with_reducible exact LeO.none _)
   | (with_reducible refine LeO.ite ?_ ?_)
   | (with_reducible refine LeO.bind ?_ (fun _ => ?_))
   | refine LeO.ite ?_ ?_
   | refine LeO.bind ?_ (fun _ => ?_)
theorem prime_IsPrime.calls (k : Nat) (a0 : Int) (r : Bool) (w : World) (h : prime_IsPrime.f k a0 = some r) :
  Calls Tryz.prog 92 #[.int .i64 a0] w fun e w' => e = .returned (.bool r) ∧ Drawn0 w w' := by
 have H : (if a0 < 2 then (prime_IsPrime.j0 k a0 true) else (prime_IsPrime.j0 k a0 (decide (a0 > 97)))) = some r := h
 clear h
 have HC2 := Aside0.mk H
 clear H
 go_enter Tryz.func92, Tryz.ntmps92
 go_upto_region 1 with (fail)
 go_cut [9] (fun v9 wc => ∃ (kq : Nat) (x9_1 : Bool), v9 = .bool x9_1 ∧ Aside0 (prime_IsPrime.j0 kq a0 x9_1 = some r) ∧ Aside0 (kq ≤ k) ∧ Drawn0 w wc)
 case first =>
  have H := HC2.out
  clear HC2
  by_cases c3 : a0 < 2
  ·rw [if_pos c3] at H
   have c3b0 : decide (a0 < 2) = true := decide_eq_true c3
   clear c3
   (first | rw [c3b0] | (simp only [i64_w, i32_w]; rw [c3b0]) | skip)
   have H' := Aside0.mk H
   clear H
   go_wp2
   go_meet
   case rel => exact ⟨_, (true), (by first | rfl | (simp; done) | (simp [*]; done)), H', ⟨by first | omega | exact Nat.le_refl _⟩, by repeat (first | exact Drawn0.refl _ | apply Drawn0.step)⟩
  ·rw [if_neg c3] at H
   have c3b0 : decide (a0 < 2) = false := decide_eq_false c3
   clear c3
   (first | rw [c3b0] | (simp only [i64_w, i32_w]; rw [c3b0]) | skip)
   have H' := Aside0.mk H
   clear H
   go_wp2
   go_meet
   case rel => exact ⟨_, (decide (a0 > 97)), (by first | rfl | (simp; done) | (simp [*]; done)), H', ⟨by first | omega | exact Nat.le_refl _⟩, by repeat (first | exact Drawn0.refl _ | apply Drawn0.step)⟩
 case rest =>
  clear HC2
  try clear p2
  try clear c3
  try clear c3b0
  obtain ⟨kq, x9_1, rfl, HA, HJ1, ⟨mc1, rfl⟩⟩ := hcut
  cases kq with
  | zero => exact absurd HA.out (by simp [prime_IsPrime.j0])
  | succ kj1 =>
   have H := HA.out
   clear HA
   simp only [prime_IsPrime.j0] at H
   by_cases c4 : x9_1 = true
   ·subst c4
    have H1 : (some false) = some r := by rw [if_pos rfl] at H; exact H
    clear H
    have H := H1
    clear H1
    obtain rfl := Option.some.inj H
    go_wp2
    go_ret
    exact ⟨by first | rfl | (simp; done) | (simp [*]; done), by repeat (first | exact Drawn0.refl _ | apply Drawn0.step)⟩
   ·replace c4 := Bool.eq_false_iff.mpr c4
    subst c4
    have H1 : (prime_IsPrime.l0 kj1 a0 2) = some r := by rw [if_neg (show ¬ (false = true) by decide)] at H; exact H
    clear H
    have H := H1
    clear H1
    have H' := Aside0.mk H
    clear H
    go_wp2
    go_loopg [3] kj1 (fun kq v3 w' => ∃ (x3_2 : Int), v3 = .int .i64 x3_2 ∧ Aside0 (prime_IsPrime.l0 kq a0 x3_2 = some r) ∧ Aside0 (kq ≤ kj1) ∧ Drawn0 w w')
    case atStart => exact ⟨(2), (by first | rfl | (simp; done) | (simp [*]; done)), H', ⟨Nat.le_refl _⟩, by repeat (first | exact Drawn0.refl _ | apply Drawn0.step)⟩
    case round =>
     clear H'
     try clear c1
     try clear p2
     try clear c3
     try clear c3b0
     try clear c4
     try clear p2
     obtain ⟨x3_2, rfl, HA, HK2, ⟨m2, rfl⟩⟩ := hrel
     cases gk with
     | zero => exact absurd HA.out (by simp [prime_IsPrime.l0])
     | succ k2 =>
      have H := HA.out
      clear HA
      simp only [prime_IsPrime.l0] at H
      by_cases c5 : (wrap64 (x3_2 * x3_2)) ≤ a0
      ·rw [if_pos c5] at H
       have c5b0 : decide ((wrap64 (x3_2 * x3_2)) ≤ a0) = true := decide_eq_true c5
       clear c5
       by_cases c6 : x3_2 = 0
       ·rw [if_pos c6] at H
        exact absurd H (by simp)
       ·rw [if_neg c6] at H
        have c6b0 : (x3_2 == 0) = false := beq_eq_false_iff_ne.mpr c6
        have c6b1 : (x3_2 != 0) = true := bne_iff_ne.mpr c6
        by_cases c7 : (Int.tmod a0 x3_2) = 0
        ·rw [if_pos c7] at H
         have c7b0 : ((Int.tmod a0 x3_2) == 0) = true := beq_iff_eq.mpr c7
         have c7b1 : ((Int.tmod a0 x3_2) != 0) = false := bne_eq_false_iff_eq.mpr c7
         clear c7
         obtain rfl := Option.some.inj H
         go_wp2
         go_ret
         exact ⟨by first | rfl | (simp; done) | (simp [*]; done), by repeat (first | exact Drawn0.refl _ | apply Drawn0.step)⟩
        ·rw [if_neg c7] at H
         have c7b0 : ((Int.tmod a0 x3_2) == 0) = false := beq_eq_false_iff_ne.mpr c7
         have c7b1 : ((Int.tmod a0 x3_2) != 0) = true := bne_iff_ne.mpr c7
         have H' := Aside0.mk H
         clear H
         go_wp2
         go_roundg k2
         case measure => have := HJ1.out; have := HK2.out; omega
         case rel => exact ⟨(wrap64 (x3_2 + 1)), (by first | rfl | (simp; done) | (simp [*]; done)), H', ⟨by have := HJ1.out; have := HK2.out; omega⟩, by repeat (first | exact Drawn0.refl _ | apply Drawn0.step)⟩
      ·rw [if_neg c5] at H
       have c5b0 : decide ((wrap64 (x3_2 * x3_2)) ≤ a0) = false := decide_eq_false c5
       clear c5
       obtain rfl := Option.some.inj H
       go_wp2
       go_ret
       exact ⟨by first | rfl | (simp; done) | (simp [*]; done), by repeat (first | exact Drawn0.refl _ | apply Drawn0.step)⟩
def prime_Check.l0 : Nat → List Int → List Int → Int → Int → Option (Int)
 | 0, _, _, _, _ => none
 | k + 1, x0, x13, x14, x15 => if x15 < x14 then (if 0 ≤ x15 then (if x15 < (x13.length : Int) then ((prime_IsPrime.f k (rd x13 x15)).bind fun t229 => (if t229 = true then (if x15 > 0 then (if 0 ≤ (wrap64 (x15 - 1)) then (if (wrap64 (x15 - 1)) < (x0.length : Int) then (if (rd x13 x15) ≤ (rd x0 (wrap64 (x15 - 1))) then (some 6) else (prime_Check.l0 k x0 x13 x14 (wrap64 (x15 + 1)))) else (none)) else (none)) else (prime_Check.l0 k x0 x13 x14 (wrap64 (x15 + 1)))) else (some 25))) else (none)) else (none)) else (some 0)
def prime_Check.f (k : Nat) (l0 : List Int) : Option (Int) := if (l0.length : Int) = 0 then (some 13) else (if (l0.length : Int) > 6 then (some 4) else (prime_Check.l0 k l0 l0 (l0.length : Int) 0))
theorem prime_Check.mono_l : ∀ k, (∀ y0 y1 y2 y3, LeO (prime_Check.l0 k y0 y1 y2 y3) (prime_Check.l0 (k + 1) y0 y1 y2 y3))
 | 0 => fun _ _ _ _ r h => by simp [prime_Check.l0] at h
 | k + 1 => by
  have ih0 := prime_Check.mono_l k
  ·intro y0 y1 y2 y3
   unfold prime_Check.l0
   repeat' first
   | (with_reducible exact ih0 _ _ _ _)
   | with_reducible apply prime_IsPrime.mono
   | (with_reducible exact LeO.refl _)
   | (with_reducible exact LeO.none _)
   | (with_reducible refine LeO.ite ?_ ?_)
   | (with_reducible refine LeO.bind ?_ (fun _ => ?_))
   | refine LeO.ite ?_ ?_
   | refine LeO.bind ?_ (fun _ => ?_)
theorem prime_Check.mono : ∀ a0 k, LeO (prime_Check.f k a0) (prime_Check.f (k + 1) a0) := by
 intro a0 k
 have ih0 := prime_Check.mono_l k
 unfold prime_Check.f
 repeat' first
   | (with_reducible exact ih0 _ _ _ _)
   | with_reducible apply prime_IsPrime.mono
   | (with_reducible exact LeO.refl _)
   | (with_reducible exact LeO.none _)
   | (with_reducible refine LeO.ite ?_ ?_)
   | (with_reducible refine LeO.bind ?_ (fun _ => ?_))
   | refine LeO.ite ?_ ?_
   | refine LeO.bind ?_ (fun _ => ?_)
theorem prime_Check.calls (k : Nat) (A0 : Option Addr) (c0 : Nat) (l0 : List Int) (r : Int) (w : World) (hr0 : Kd.C (Kd.int .i64) w A0 l0.length l0) (hc0 : l0.length ≤ c0) (h : prime_Check.f k l0 = some r) :
  Calls Tryz.prog 58 #[.slice A0 l0.length c0] w fun e w' => e = .returned (.int .i64 r) ∧ Drawn0 w w' := by
 have HR0 := Aside0.mk hr0
 have HC0 := Aside0.mk hc0
 clear hr0 hc0
 have H : (if (l0.length : Int) = 0 then (some 13) else (if (l0.length : Int) > 6 then (some 4) else (prime_Check.l0 k l0 l0 (l0.length : Int) 0))) = some r := h
 clear h
 by_cases c2 : (l0.length : Int) = 0
 ·rw [if_pos c2] at H
  have c2b0 : ((l0.length : Int) == 0) = true := beq_iff_eq.mpr c2
  have c2b1 : ((l0.length : Int) != 0) = false := bne_eq_false_iff_eq.mpr c2
  clear c2
  obtain rfl := Option.some.inj H
  go_enter Tryz.func58, Tryz.ntmps58
  go_wp2
  go_ret
  exact ⟨by first | rfl | (simp; done) | (simp [*]; done), by repeat (first | exact Drawn0.refl _ | apply Drawn0.step)⟩
 ·rw [if_neg c2] at H
  have c2b0 : ((l0.length : Int) == 0) = false := beq_eq_false_iff_ne.mpr c2
  have c2b1 : ((l0.length : Int) != 0) = true := bne_iff_ne.mpr c2
  have c2b2 : ¬ (l0 = []) := fun h_ => c2 (by rw [h_]; rfl)
  by_cases c3 : (l0.length : Int) > 6
  ·rw [if_pos c3] at H
   have c3b0 : decide (6 < (l0.length : Int)) = true := decide_eq_true c3
   have c3b1 : decide (6 < l0.length) = true := decide_eq_true (by omega)
   clear c3
   obtain rfl := Option.some.inj H
   go_enter Tryz.func58, Tryz.ntmps58
   go_wp2
   go_ret
   exact ⟨by first | rfl | (simp; done) | (simp [*]; done), by repeat (first | exact Drawn0.refl _ | apply Drawn0.step)⟩
  ·rw [if_neg c3] at H
   have c3b0 : decide (6 < (l0.length : Int)) = false := decide_eq_false c3
   have c3b1 : decide (6 < l0.length) = false := decide_eq_false (by omega)
   clear c3
   have H' := Aside0.mk H
   clear H
   go_enter Tryz.func58, Tryz.ntmps58
   go_wp2
   go_loopg [15] k (fun kq v15 w' => ∃ (x15_1 : Int), v15 = .int .i64 x15_1 ∧ Aside0 (prime_Check.l0 kq l0 l0 (l0.length : Int) x15_1 = some r) ∧ Aside0 (kq ≤ k) ∧ Drawn0 w w')
   case atStart => exact ⟨(0), (by first | rfl | (simp; done) | (simp [*]; done)), H', ⟨Nat.le_refl _⟩, by repeat (first | exact Drawn0.refl _ | apply Drawn0.step)⟩
   case round =>
    clear H'
    try clear c2
    try clear c2b0
    try clear c2b1
    try clear c2b2
    try clear p2
    try clear c3
    try clear c3b0
    try clear c3b1
    obtain ⟨x15_1, rfl, HA, HK1, ⟨m1, rfl⟩⟩ := hrel
    cases gk with
    | zero => exact absurd HA.out (by simp [prime_Check.l0])
    | succ k1 =>
     have H := HA.out
     clear HA
     simp only [prime_Check.l0] at H
     by_cases c4 : x15_1 < (l0.length : Int)
     ·rw [if_pos c4] at H
      have c4b0 : decide (x15_1 < (l0.length : Int)) = true := decide_eq_true c4
      clear c4
      by_cases c5 : 0 ≤ x15_1
      ·rw [if_pos c5] at H
       have c5b0 : decide (0 ≤ x15_1) = true := decide_eq_true c5
       clear c5
       by_cases c6 : x15_1 < (l0.length : Int)
       ·rw [if_pos c6] at H
        have c6b0 : decide (x15_1 < (l0.length : Int)) = true := decide_eq_true c6
        clear c6
        replace H := Option.bind_eq_some_iff.mp H
        obtain ⟨t229, A70, H⟩ := H
        replace H : (if t229 = true then (if x15_1 > 0 then (if 0 ≤ (wrap64 (x15_1 - 1)) then (if (wrap64 (x15_1 - 1)) < (l0.length : Int) then (if (rd l0 x15_1) ≤ (rd l0 (wrap64 (x15_1 - 1))) then (some 6) else (prime_Check.l0 k1 l0 l0 (l0.length : Int) (wrap64 (x15_1 + 1)))) else (none)) else (none)) else (prime_Check.l0 k1 l0 l0 (l0.length : Int) (wrap64 (x15_1 + 1)))) else (some 25)) = some r := H
        have A7 := Aside0.mk A70
        clear A70
        by_cases c8 : t229 = true
        ·subst c8
         have H1 : (if x15_1 > 0 then (if 0 ≤ (wrap64 (x15_1 - 1)) then (if (wrap64 (x15_1 - 1)) < (l0.length : Int) then (if (rd l0 x15_1) ≤ (rd l0 (wrap64 (x15_1 - 1))) then (some 6) else (prime_Check.l0 k1 l0 l0 (l0.length : Int) (wrap64 (x15_1 + 1)))) else (none)) else (none)) else (prime_Check.l0 k1 l0 l0 (l0.length : Int) (wrap64 (x15_1 + 1)))) = some r := by rw [if_pos rfl] at H; exact H
         clear H
         have H := H1
         clear H1
         by_cases c9 : x15_1 > 0
         ·rw [if_pos c9] at H
          have c9b0 : decide (0 < x15_1) = true := decide_eq_true c9
          clear c9
          obtain ⟨ji10, hji10⟩ : ∃ j_ : Int, (wrap64 (x15_1 - 1)) = j_ := ⟨_, rfl⟩
          replace H : (if 0 ≤ (ji10) then (if (ji10) < (l0.length : Int) then (if (rd l0 x15_1) ≤ (rd l0 (ji10)) then (some 6) else (prime_Check.l0 k1 l0 l0 (l0.length : Int) (wrap64 (x15_1 + 1)))) else (none)) else (none)) = some r := by first | (rw [hji10] at H; exact H) | (simp only [hji10] at H ⊢; exact H)
          (try rw [hji10] at A7)
          have hji10w : (IntKind.i64.wrap (x15_1 - 1)) = ji10 := (i64_w _).trans hji10
          by_cases c11 : 0 ≤ (ji10)
          ·rw [if_pos c11] at H
           have c11b0 : decide (0 ≤ (ji10)) = true := decide_eq_true c11
           clear c11
           by_cases c12 : (ji10) < (l0.length : Int)
           ·rw [if_pos c12] at H
            have c12b0 : decide ((ji10) < (l0.length : Int)) = true := decide_eq_true c12
            clear c12
            by_cases c13 : (rd l0 x15_1) ≤ (rd l0 (ji10))
            ·rw [if_pos c13] at H
             have c13b0 : decide ((rd l0 x15_1) ≤ (rd l0 (ji10))) = true := decide_eq_true c13
             clear c13
             obtain rfl := Option.some.inj H
             have p228 : 0 ≤ (x15_1 : Int) := of_decide_eq_true (by with_reducible assumption)
             have q228 : x15_1 < (l0.length : Int) := of_decide_eq_true (by with_reducible assumption)
             obtain ⟨ad228, e228, hx228_0⟩ := Kd.at_int HR0.out x15_1 p228 q228
             cases e228
             replace p228 := eq_true p228
             replace q228 := eq_true q228
             go_wp2_with (first | ((with_reducible refine gate_callee (f := 92) rfl ?_); refine goesL_ (some 21) rfl rfl Tryz.func92 (by kernel_rfl) rfl #[.int .i64 (rd l0 x15_1)] rfl (by (try simp only [List.map_toArray, List.map_cons, List.map_nil]); first | done | rfl | (simp only [List.length_drop, List.length_take]; rfl)) ?_; (with_reducible refine (prime_IsPrime.calls k1 (rd l0 x15_1) true _ A7.out).mono ?_); rintro e w' ⟨rfl, ⟨nd, rfl⟩⟩; refine ⟨_, rfl, ?_⟩; have p230 : 0 ≤ ((ji10) : Int) := of_decide_eq_true (by with_reducible assumption); have q230 : (ji10) < (l0.length : Int) := of_decide_eq_true (by with_reducible assumption); obtain ⟨ad230, e230, hx230_0⟩ := Kd.at_int HR0.out (ji10) p230 q230; obtain rfl : ad228 = ad230 := (by injection e230); replace p230 := eq_true p230; replace q230 := eq_true q230))
             go_ret
             exact ⟨by first | rfl | (simp; done) | (simp only [← hji10] <;> (first | rfl | simp)) | (simp [*]; done), by repeat (first | exact Drawn0.refl _ | apply Drawn0.step)⟩
            ·rw [if_neg c13] at H
             have c13b0 : decide ((rd l0 x15_1) ≤ (rd l0 (ji10))) = false := decide_eq_false c13
             clear c13
             have H' := Aside0.mk H
             clear H
             have p228 : 0 ≤ (x15_1 : Int) := of_decide_eq_true (by with_reducible assumption)
             have q228 : x15_1 < (l0.length : Int) := of_decide_eq_true (by with_reducible assumption)
             obtain ⟨ad228, e228, hx228_0⟩ := Kd.at_int HR0.out x15_1 p228 q228
             cases e228
             replace p228 := eq_true p228
             replace q228 := eq_true q228
             go_wp2_with (first | ((with_reducible refine gate_callee (f := 92) rfl ?_); refine goesL_ (some 21) rfl rfl Tryz.func92 (by kernel_rfl) rfl #[.int .i64 (rd l0 x15_1)] rfl (by (try simp only [List.map_toArray, List.map_cons, List.map_nil]); first | done | rfl | (simp only [List.length_drop, List.length_take]; rfl)) ?_; (with_reducible refine (prime_IsPrime.calls k1 (rd l0 x15_1) true _ A7.out).mono ?_); rintro e w' ⟨rfl, ⟨nd, rfl⟩⟩; refine ⟨_, rfl, ?_⟩; have p230 : 0 ≤ ((ji10) : Int) := of_decide_eq_true (by with_reducible assumption); have q230 : (ji10) < (l0.length : Int) := of_decide_eq_true (by with_reducible assumption); obtain ⟨ad230, e230, hx230_0⟩ := Kd.at_int HR0.out (ji10) p230 q230; obtain rfl : ad228 = ad230 := (by injection e230); replace p230 := eq_true p230; replace q230 := eq_true q230))
             go_roundg k1
             case measure => have := HK1.out; omega
             case rel => exact ⟨(wrap64 (x15_1 + 1)), (by first | rfl | (simp; done) | (simp [*]; done)), H', ⟨by have := HK1.out; omega⟩, by repeat (first | exact Drawn0.refl _ | apply Drawn0.step)⟩
           ·rw [if_neg c12] at H
            exact absurd H (by simp)
          ·rw [if_neg c11] at H
           exact absurd H (by simp)
         ·rw [if_neg c9] at H
          have c9b0 : decide (0 < x15_1) = false := decide_eq_false c9
          clear c9
          have H' := Aside0.mk H
          clear H
          have p228 : 0 ≤ (x15_1 : Int) := of_decide_eq_true (by with_reducible assumption)
          have q228 : x15_1 < (l0.length : Int) := of_decide_eq_true (by with_reducible assumption)
          obtain ⟨ad228, e228, hx228_0⟩ := Kd.at_int HR0.out x15_1 p228 q228
          cases e228
          replace p228 := eq_true p228
          replace q228 := eq_true q228
          go_wp2_with (first | ((with_reducible refine gate_callee (f := 92) rfl ?_); refine goesL_ (some 21) rfl rfl Tryz.func92 (by kernel_rfl) rfl #[.int .i64 (rd l0 x15_1)] rfl (by (try simp only [List.map_toArray, List.map_cons, List.map_nil]); first | done | rfl | (simp only [List.length_drop, List.length_take]; rfl)) ?_; (with_reducible refine (prime_IsPrime.calls k1 (rd l0 x15_1) true _ A7.out).mono ?_); rintro e w' ⟨rfl, ⟨nd, rfl⟩⟩; refine ⟨_, rfl, ?_⟩))
          go_roundg k1
          case measure => have := HK1.out; omega
          case rel => exact ⟨(wrap64 (x15_1 + 1)), (by first | rfl | (simp; done) | (simp [*]; done)), H', ⟨by have := HK1.out; omega⟩, by repeat (first | exact Drawn0.refl _ | apply Drawn0.step)⟩
        ·replace c8 := Bool.eq_false_iff.mpr c8
         subst c8
         have H1 : (some 25) = some r := by rw [if_neg (show ¬ (false = true) by decide)] at H; exact H
         clear H
         have H := H1
         clear H1
         obtain rfl := Option.some.inj H
         have p228 : 0 ≤ (x15_1 : Int) := of_decide_eq_true (by with_reducible assumption)
         have q228 : x15_1 < (l0.length : Int) := of_decide_eq_true (by with_reducible assumption)
         obtain ⟨ad228, e228, hx228_0⟩ := Kd.at_int HR0.out x15_1 p228 q228
         cases e228
         replace p228 := eq_true p228
         replace q228 := eq_true q228
         go_wp2_with (first | ((with_reducible refine gate_callee (f := 92) rfl ?_); refine goesL_ (some 21) rfl rfl Tryz.func92 (by kernel_rfl) rfl #[.int .i64 (rd l0 x15_1)] rfl (by (try simp only [List.map_toArray, List.map_cons, List.map_nil]); first | done | rfl | (simp only [List.length_drop, List.length_take]; rfl)) ?_; (with_reducible refine (prime_IsPrime.calls k1 (rd l0 x15_1) false _ A7.out).mono ?_); rintro e w' ⟨rfl, ⟨nd, rfl⟩⟩; refine ⟨_, rfl, ?_⟩))
         go_ret
         exact ⟨by first | rfl | (simp; done) | (simp [*]; done), by repeat (first | exact Drawn0.refl _ | apply Drawn0.step)⟩
       ·rw [if_neg c6] at H
        exact absurd H (by simp)
      ·rw [if_neg c5] at H
       exact absurd H (by simp)
     ·rw [if_neg c4] at H
      have c4b0 : decide (x15_1 < (l0.length : Int)) = false := decide_eq_false c4
      clear c4
      obtain rfl := Option.some.inj H
      go_wp2
      go_ret
      exact ⟨by first | rfl | (simp; done) | (simp [*]; done), by repeat (first | exact Drawn0.refl _ | apply Drawn0.step)⟩
mutual
def monzo_CheckAll.l0 : Nat → List Int → List (List Int) → Int → Int → Option (Int)
 | 0, _, _, _, _ => none
 | k + 1, x0, x15, x16, x17 => if x17 < x16 then (if 0 ≤ x17 then (if x17 < (x15.length : Int) then (if ((rd_L1 x15 x17).length : Int) = (x0.length : Int) then (monzo_CheckAll.l1 k x0 x15 x16 x17 (rd_L1 x15 x17) ((rd_L1 x15 x17).length : Int) 0) else (some 5)) else (none)) else (none)) else (some 0)
def monzo_CheckAll.l1 : Nat → List Int → List (List Int) → Int → Int → List Int → Int → Int → Option (Int)
 | 0, _, _, _, _, _, _, _ => none
 | k + 1, x0, x15, x16, x17, x26, x27, x28 => if x28 < x27 then (if 0 ≤ x28 then (if x28 < (x26.length : Int) then (if (rd x26 x28) > 1000 then (some 4) else (if (rd x26 x28) < (-1000) then (some 4) else (monzo_CheckAll.l1 k x0 x15 x16 x17 x26 x27 (wrap64 (x28 + 1))))) else (none)) else (none)) else (monzo_CheckAll.l0 k x0 x15 x16 (wrap64 (x17 + 1)))
end
def monzo_CheckAll.f (k : Nat) (l0 : List Int) (l1 : List (List Int)) : Option (Int) := (prime_Check.f k l0).bind fun t231 => (if t231 = 0 then (monzo_CheckAll.l0 k l0 l1 (l1.length : Int) 0) else (some t231))
theorem monzo_CheckAll.mono_l : ∀ k, (∀ y0 y1 y2 y3, LeO (monzo_CheckAll.l0 k y0 y1 y2 y3) (monzo_CheckAll.l0 (k + 1) y0 y1 y2 y3)) ∧ (∀ y0 y1 y2 y3 y4 y5 y6, LeO (monzo_CheckAll.l1 k y0 y1 y2 y3 y4 y5 y6) (monzo_CheckAll.l1 (k + 1) y0 y1 y2 y3 y4 y5 y6))
 | 0 => ⟨fun _ _ _ _ r h => by simp [monzo_CheckAll.l0] at h, fun _ _ _ _ _ _ _ r h => by simp [monzo_CheckAll.l1] at h⟩
 | k + 1 => by
  obtain ⟨ih0, ih1⟩ := monzo_CheckAll.mono_l k
  refine ⟨?_, ?_⟩
  ·intro y0 y1 y2 y3
   unfold monzo_CheckAll.l0
   repeat' first
   | (with_reducible exact ih0 _ _ _ _)
   | (with_reducible exact ih1 _ _ _ _ _ _ _)
   | with_reducible apply prime_Check.mono
   | (with_reducible exact LeO.refl _)
   | (with_reducible exact LeO.none _)
   | (with_reducible refine LeO.ite ?_ ?_)
   | (with_reducible refine LeO.bind ?_ (fun _ => ?_))
   | refine LeO.ite ?_ ?_
   | refine LeO.bind ?_ (fun _ => ?_)
  ·intro y0 y1 y2 y3 y4 y5 y6
   unfold monzo_CheckAll.l1
   repeat' first
   | (with_reducible exact ih0 _ _ _ _)
   | (with_reducible exact ih1 _ _ _ _ _ _ _)
   | with_reducible apply prime_Check.mono
   | (with_reducible exact LeO.refl _)
   | (with_reducible exact LeO.none _)
   | (with_reducible refine LeO.ite ?_ ?_)
   | (with_reducible refine LeO.bind ?_ (fun _ => ?_))
   | refine LeO.ite ?_ ?_
   | refine LeO.bind ?_ (fun _ => ?_)
theorem monzo_CheckAll.mono : ∀ a0 a1 k, LeO (monzo_CheckAll.f k a0 a1) (monzo_CheckAll.f (k + 1) a0 a1) := by
 intro a0 a1 k
 obtain ⟨ih0, ih1⟩ := monzo_CheckAll.mono_l k
 unfold monzo_CheckAll.f
 repeat' first
   | (with_reducible exact ih0 _ _ _ _)
   | (with_reducible exact ih1 _ _ _ _ _ _ _)
   | with_reducible apply prime_Check.mono
   | (with_reducible exact LeO.refl _)
   | (with_reducible exact LeO.none _)
   | (with_reducible refine LeO.ite ?_ ?_)
   | (with_reducible refine LeO.bind ?_ (fun _ => ?_))
   | refine LeO.ite ?_ ?_
   | refine LeO.bind ?_ (fun _ => ?_)
theorem monzo_CheckAll.calls (k : Nat) (A0 : Option Addr) (c0 : Nat) (l0 : List Int) (A1 : Option Addr) (c1 : Nat) (l1 : List (List Int)) (r : Int) (w : World) (hr0 : Kd.C (Kd.int .i64) w A0 l0.length l0) (hc0 : l0.length ≤ c0) (hr1 : Kd.C (Kd.slice 3 (Kd.int .i64)) w A1 l1.length l1) (hc1 : l1.length ≤ c1) (h : monzo_CheckAll.f k l0 l1 = some r) :
  Calls Tryz.prog 24 #[.slice A0 l0.length c0, .slice A1 l1.length c1] w fun e w' => e = .returned (.int .i64 r) ∧ Drawn0 w w' := by
 have HR0 := Aside0.mk hr0
 have HC0 := Aside0.mk hc0
 clear hr0 hc0
 have HR1 := Aside0.mk hr1
 have HC1 := Aside0.mk hc1
 clear hr1 hc1
 have H : ((prime_Check.f k l0).bind fun t231 => (if t231 = 0 then (monzo_CheckAll.l0 k l0 l1 (l1.length : Int) 0) else (some t231))) = some r := h
 clear h
 replace H := Option.bind_eq_some_iff.mp H
 obtain ⟨t231, A30, H⟩ := H
 replace H : (if t231 = 0 then (monzo_CheckAll.l0 k l0 l1 (l1.length : Int) 0) else (some t231)) = some r := H
 have A3 := Aside0.mk A30
 clear A30
 by_cases c4 : t231 = 0
 ·rw [if_pos c4] at H
  have c4b0 : (t231 == 0) = true := beq_iff_eq.mpr c4
  have c4b1 : (t231 != 0) = false := bne_eq_false_iff_eq.mpr c4
  clear c4
  have H' := Aside0.mk H
  clear H
  go_enter Tryz.func24, Tryz.ntmps24
  go_wp2_with (first | ((with_reducible refine gate_callee (f := 58) rfl ?_); refine goesL_ (some 11) rfl rfl Tryz.func58 (by kernel_rfl) rfl #[.slice A0 l0.length c0] rfl (by (try simp only [List.map_toArray, List.map_cons, List.map_nil]); first | done | rfl | (simp only [List.length_drop, List.length_take]; rfl)) ?_; (with_reducible refine (prime_Check.calls k _ _ l0 t231 _ ?side1 ?side2 A3.out).mono ?_); (case side1 => repeat (first | exact HR0.out | (with_reducible refine Kd.C_alloc ?_ _) | (with_reducible refine Kd.C_drewN ?_ _) | (with_reducible refine Kd.C_drew ?_))); (case side2 => exact HC0.out); rintro e w' ⟨rfl, ⟨nd, rfl⟩⟩; refine ⟨_, rfl, ?_⟩))
  go_loopg [17] k (fun kq v17 w' => ∃ (x17_1 : Int), v17 = .int .i64 x17_1 ∧ Aside0 (monzo_CheckAll.l0 kq l0 l1 (l1.length : Int) x17_1 = some r) ∧ Aside0 (kq ≤ k) ∧ Drawn0 w w')
  case atStart => exact ⟨(0), (by first | rfl | (simp; done) | (simp [*]; done)), H', ⟨Nat.le_refl _⟩, by repeat (first | exact Drawn0.refl _ | apply Drawn0.step)⟩
  case round =>
   clear H'
   try clear c1
   try clear c2
   try clear p2
   try clear c4
   try clear c4b0
   try clear c4b1
   obtain ⟨x17_1, rfl, HA, HK1, ⟨m1, rfl⟩⟩ := hrel
   cases gk with
   | zero => exact absurd HA.out (by simp [monzo_CheckAll.l0])
   | succ k1 =>
    have H := HA.out
    clear HA
    simp only [monzo_CheckAll.l0] at H
    by_cases c5 : x17_1 < (l1.length : Int)
    ·rw [if_pos c5] at H
     have c5b0 : decide (x17_1 < (l1.length : Int)) = true := decide_eq_true c5
     clear c5
     by_cases c6 : 0 ≤ x17_1
     ·rw [if_pos c6] at H
      have c6b0 : decide (0 ≤ x17_1) = true := decide_eq_true c6
      clear c6
      by_cases c7 : x17_1 < (l1.length : Int)
      ·rw [if_pos c7] at H
       have c7b0 : decide (x17_1 < (l1.length : Int)) = true := decide_eq_true c7
       clear c7
       by_cases c8 : ((rd_L1 l1 x17_1).length : Int) = (l0.length : Int)
       ·rw [if_pos c8] at H
        have c8b0 : (((rd_L1 l1 x17_1).length : Int) == (l0.length : Int)) = true := beq_iff_eq.mpr c8
        have c8b1 : (((rd_L1 l1 x17_1).length : Int) != (l0.length : Int)) = false := bne_eq_false_iff_eq.mpr c8
        have c8b2 : ((rd_L1 l1 x17_1).length == l0.length) = true := by first | simpa using c8 | (simp at c8 ⊢; omega)
        clear c8
        have H' := Aside0.mk H
        clear H
        have p232 : 0 ≤ (x17_1 : Int) := of_decide_eq_true (by with_reducible assumption)
        have q232 : x17_1 < (l1.length : Int) := of_decide_eq_true (by with_reducible assumption)
        obtain ⟨ad232, A232_0, c232_0, e232, hx232_0, hl232_0, hi232_0⟩ := at_L1 HR1.out x17_1 p232 q232
        cases e232
        have HR232_0 := Aside0.mk hi232_0
        have HC232_0 := Aside0.mk hl232_0
        clear hi232_0 hl232_0
        replace p232 := eq_true p232
        replace q232 := eq_true q232
        go_wp2
        go_loopg [28] k1 (fun kq v28 w' => ∃ (x28_2 : Int), v28 = .int .i64 x28_2 ∧ Aside0 (monzo_CheckAll.l1 kq l0 l1 (l1.length : Int) x17_1 (rd_L1 l1 x17_1) ((rd_L1 l1 x17_1).length : Int) x28_2 = some r) ∧ Aside0 (kq ≤ k1) ∧ Drawn0 w w')
        case atStart => exact ⟨(0), (by first | rfl | (simp; done) | (simp [*]; done)), H', ⟨Nat.le_refl _⟩, by repeat (first | exact Drawn0.refl _ | apply Drawn0.step)⟩
        case round =>
         clear H'
         try clear c1
         try clear c2
         try clear p2
         try clear q2
         try clear hx2
         try clear c4
         try clear c4b0
         try clear c4b1
         try clear c5
         try clear c5b0
         try clear c6
         try clear c6b0
         try clear c7
         try clear c7b0
         try clear c8
         try clear c8b0
         try clear c8b1
         try clear c8b2
         try clear hx232_0
         try clear p2
         try clear p232
         try clear q232
         obtain ⟨x28_2, rfl, HA, HK2, ⟨m2, rfl⟩⟩ := hrel
         cases gk with
         | zero => exact absurd HA.out (by simp [monzo_CheckAll.l1])
         | succ k2 =>
          have H := HA.out
          clear HA
          simp only [monzo_CheckAll.l1] at H
          by_cases c9 : x28_2 < ((rd_L1 l1 x17_1).length : Int)
          ·rw [if_pos c9] at H
           have c9b0 : decide (x28_2 < ((rd_L1 l1 x17_1).length : Int)) = true := decide_eq_true c9
           clear c9
           by_cases c10 : 0 ≤ x28_2
           ·rw [if_pos c10] at H
            have c10b0 : decide (0 ≤ x28_2) = true := decide_eq_true c10
            clear c10
            by_cases c11 : x28_2 < ((rd_L1 l1 x17_1).length : Int)
            ·rw [if_pos c11] at H
             have c11b0 : decide (x28_2 < ((rd_L1 l1 x17_1).length : Int)) = true := decide_eq_true c11
             clear c11
             by_cases c12 : (rd (rd_L1 l1 x17_1) x28_2) > 1000
             ·rw [if_pos c12] at H
              have c12b0 : decide (1000 < (rd (rd_L1 l1 x17_1) x28_2)) = true := decide_eq_true c12
              clear c12
              obtain rfl := Option.some.inj H
              have p233 : 0 ≤ (x28_2 : Int) := of_decide_eq_true (by with_reducible assumption)
              have q233 : x28_2 < ((rd_L1 l1 x17_1).length : Int) := of_decide_eq_true (by with_reducible assumption)
              obtain ⟨ad233, e233, hx233_0⟩ := Kd.at_int HR232_0.out x28_2 p233 q233
              cases e233
              replace p233 := eq_true p233
              replace q233 := eq_true q233
              go_wp2
              go_ret
              exact ⟨by first | rfl | (simp; done) | (simp [*]; done), by repeat (first | exact Drawn0.refl _ | apply Drawn0.step)⟩
             ·rw [if_neg c12] at H
              have c12b0 : decide (1000 < (rd (rd_L1 l1 x17_1) x28_2)) = false := decide_eq_false c12
              clear c12
              by_cases c13 : (rd (rd_L1 l1 x17_1) x28_2) < (-1000)
              ·rw [if_pos c13] at H
               have c13b0 : decide ((rd (rd_L1 l1 x17_1) x28_2) < (-1000)) = true := decide_eq_true c13
               clear c13
               obtain rfl := Option.some.inj H
               have p233 : 0 ≤ (x28_2 : Int) := of_decide_eq_true (by with_reducible assumption)
               have q233 : x28_2 < ((rd_L1 l1 x17_1).length : Int) := of_decide_eq_true (by with_reducible assumption)
               obtain ⟨ad233, e233, hx233_0⟩ := Kd.at_int HR232_0.out x28_2 p233 q233
               cases e233
               replace p233 := eq_true p233
               replace q233 := eq_true q233
               go_wp2
               go_ret
               exact ⟨by first | rfl | (simp; done) | (simp [*]; done), by repeat (first | exact Drawn0.refl _ | apply Drawn0.step)⟩
              ·rw [if_neg c13] at H
               have c13b0 : decide ((rd (rd_L1 l1 x17_1) x28_2) < (-1000)) = false := decide_eq_false c13
               clear c13
               have H' := Aside0.mk H
               clear H
               have p233 : 0 ≤ (x28_2 : Int) := of_decide_eq_true (by with_reducible assumption)
               have q233 : x28_2 < ((rd_L1 l1 x17_1).length : Int) := of_decide_eq_true (by with_reducible assumption)
               obtain ⟨ad233, e233, hx233_0⟩ := Kd.at_int HR232_0.out x28_2 p233 q233
               cases e233
               replace p233 := eq_true p233
               replace q233 := eq_true q233
               go_wp2
               go_roundg k2
               case measure => have := HK1.out; have := HK2.out; omega
               case rel => exact ⟨(wrap64 (x28_2 + 1)), (by first | rfl | (simp; done) | (simp [*]; done)), H', ⟨by have := HK1.out; have := HK2.out; omega⟩, by repeat (first | exact Drawn0.refl _ | apply Drawn0.step)⟩
            ·rw [if_neg c11] at H
             exact absurd H (by simp)
           ·rw [if_neg c10] at H
            exact absurd H (by simp)
          ·rw [if_neg c9] at H
           have c9b0 : decide (x28_2 < ((rd_L1 l1 x17_1).length : Int)) = false := decide_eq_false c9
           clear c9
           have H' := Aside0.mk H
           clear H
           go_wp2
           go_roundg k2
           case measure => have := HK1.out; have := HK2.out; omega
           case rel => exact ⟨(wrap64 (x17_1 + 1)), (by first | rfl | (simp; done) | (simp [*]; done)), H', ⟨by have := HK1.out; have := HK2.out; omega⟩, by repeat (first | exact Drawn0.refl _ | apply Drawn0.step)⟩
       ·rw [if_neg c8] at H
        have c8b0 : (((rd_L1 l1 x17_1).length : Int) == (l0.length : Int)) = false := beq_eq_false_iff_ne.mpr c8
        have c8b1 : (((rd_L1 l1 x17_1).length : Int) != (l0.length : Int)) = true := bne_iff_ne.mpr c8
        have c8b2 : ((rd_L1 l1 x17_1).length == l0.length) = false := by first | simpa using c8 | (simp at c8 ⊢; omega)
        obtain rfl := Option.some.inj H
        have p232 : 0 ≤ (x17_1 : Int) := of_decide_eq_true (by with_reducible assumption)
        have q232 : x17_1 < (l1.length : Int) := of_decide_eq_true (by with_reducible assumption)
        obtain ⟨ad232, A232_0, c232_0, e232, hx232_0, hl232_0, hi232_0⟩ := at_L1 HR1.out x17_1 p232 q232
        cases e232
        have HR232_0 := Aside0.mk hi232_0
        have HC232_0 := Aside0.mk hl232_0
        clear hi232_0 hl232_0
        replace p232 := eq_true p232
        replace q232 := eq_true q232
        go_wp2
        go_ret
        exact ⟨by first | rfl | (simp; done) | (simp [*]; done), by repeat (first | exact Drawn0.refl _ | apply Drawn0.step)⟩
      ·rw [if_neg c7] at H
       exact absurd H (by simp)
     ·rw [if_neg c6] at H
      exact absurd H (by simp)
    ·rw [if_neg c5] at H
     have c5b0 : decide (x17_1 < (l1.length : Int)) = false := decide_eq_false c5
     clear c5
     obtain rfl := Option.some.inj H
     go_wp2
     go_ret
     exact ⟨by first | rfl | (simp; done) | (simp [*]; done), by repeat (first | exact Drawn0.refl _ | apply Drawn0.step)⟩
 ·rw [if_neg c4] at H
  have c4b0 : (t231 == 0) = false := beq_eq_false_iff_ne.mpr c4
  have c4b1 : (t231 != 0) = true := bne_iff_ne.mpr c4
  obtain rfl := Option.some.inj H
  go_enter Tryz.func24, Tryz.ntmps24
  go_wp2_with (first | ((with_reducible refine gate_callee (f := 58) rfl ?_); refine goesL_ (some 11) rfl rfl Tryz.func58 (by kernel_rfl) rfl #[.slice A0 l0.length c0] rfl (by (try simp only [List.map_toArray, List.map_cons, List.map_nil]); first | done | rfl | (simp only [List.length_drop, List.length_take]; rfl)) ?_; (with_reducible refine (prime_Check.calls k _ _ l0 t231 _ ?side1 ?side2 A3.out).mono ?_); (case side1 => repeat (first | exact HR0.out | (with_reducible refine Kd.C_alloc ?_ _) | (with_reducible refine Kd.C_drewN ?_ _) | (with_reducible refine Kd.C_drew ?_))); (case side2 => exact HC0.out); rintro e w' ⟨rfl, ⟨nd, rfl⟩⟩; refine ⟨_, rfl, ?_⟩))
  go_ret
  exact ⟨by first | rfl | (simp; done) | (simp [*]; done), by repeat (first | exact Drawn0.refl _ | apply Drawn0.step)⟩
def monzo_Check.f (k : Nat) (l0 : List Int) (l1 : List Int) : Option (Int) := (monzo_CheckAll.f k l0 (([l1] : List (List Int)))).bind fun t237 => (some t237)
theorem monzo_Check.mono : ∀ a0 a1 k, LeO (monzo_Check.f k a0 a1) (monzo_Check.f (k + 1) a0 a1) := by
 intro a0 a1 k
 unfold monzo_Check.f
 repeat' first
   | with_reducible apply monzo_CheckAll.mono
   | (with_reducible exact LeO.refl _)
   | (with_reducible exact LeO.none _)
   | (with_reducible refine LeO.ite ?_ ?_)
   | (with_reducible refine LeO.bind ?_ (fun _ => ?_))
   | refine LeO.ite ?_ ?_
   | refine LeO.bind ?_ (fun _ => ?_)
theorem monzo_Check.calls (k : Nat) (A0 : Option Addr) (c0 : Nat) (l0 : List Int) (P1_ : Nat → Prop) (A1 : Option Addr) (c1 : Nat) (l1 : List Int) (r : Int) (w : World) (hr0 : Kd.C (Kd.int .i64) w A0 l0.length l0) (hc0 : l0.length ≤ c0) (hs1 : Kd.V (Kd.int .i64) 3 w w.heap.size (fun k_ => P1_ k_) (.slice A1 l1.length c1) l1) (h : monzo_Check.f k l0 l1 = some r) :
  Calls Tryz.prog 55 #[.slice A0 l0.length c0, .slice A1 l1.length c1] w fun e w' => e = .returned (.int .i64 r) ∧ Below w.heap.size w w' := by
 have HR0 := Aside0.mk hr0
 have HC0 := Aside0.mk hc0
 clear hr0 hc0
 have HO1 := Aside0.mk (show Kd.V (Kd.int .i64) 3 w w.heap.size (fun k_ => (P1_ k_ ∨ w.heap.size ≤ k_)) (.slice A1 l1.length c1) l1 from Kd.V_mono hs1 (fun k_ hk => .inl hk))
 have HB := Aside0.mk (Below.refl w.heap.size w)
 have H : ((monzo_CheckAll.f k l0 (([l1] : List (List Int)))).bind fun t237 => (some t237)) = some r := h
 clear h
 obtain ⟨y234, hy234⟩ : ∃ y_ : List (List Int), y_ = (([l1] : List (List Int))) := ⟨_, rfl⟩
 replace H : ((monzo_CheckAll.f k l0 y234).bind fun t237 => (some t237)) = some r := by first | (rw [hy234]; exact H) | exact H
 have Ny234 := Aside0.mk hy234
 clear hy234
 replace H := Option.bind_eq_some_iff.mp H
 obtain ⟨t237, A30, H⟩ := H
 replace H : (some t237) = some r := H
 have A3 := Aside0.mk A30
 clear A30
 obtain rfl := Option.some.inj H
 go_enter Tryz.func55, Tryz.ntmps55
 go_wp2_with (first | ((with_reducible refine gate_dst (N := 7) rfl ?_); refine Kd.N_lit (Kd.slice 3 (Kd.int .i64)) _ 30 ?hg (N' := 7) ?hd (xs := ([l1] : List (List Int))) (inner := [.slice A1 l1.length c1]) (ok := (fun k_ => (P1_ k_ ∨ w.heap.size ≤ k_))) (okp := (fun k_ => (P1_ k_ ∨ w.heap.size ≤ k_))) ?hr ?hp (fun _ hk => hk) ((show ∀ k_, w.heap.size ≤ k_ → (fun k_ => (P1_ k_ ∨ w.heap.size ≤ k_)) k_ from fun k_ hk => (.inr (Nat.le_trans (below_size (by with_reducible repeat first | exact HB.out | apply below_alloc | apply pw_below_drewN | apply below_drew1)) hk))) _ (Nat.le_refl _)) (Below.refl _ _) (Nat.le_refl _) (by simp) ?_; (case hd => rfl); (case hg => rfl); (case hr => first | (go_simp; done) | (go_simp; rfl)); (case hp => exact (Reps.one (show Kd.FK (Kd.slice 3 (Kd.int .i64)) _ _ l1 [.slice A1 l1.length c1] from (Kd.FK_slice_mk (Kd.V_reads' (Kd.V_mono (ok' := (fun k_ => (P1_ k_ ∨ w.heap.size ≤ k_))) (HO1.out) (fun k_ hk => hk))).2.1 (Kd.V_F (Kd.V_mono (ok' := (fun k_ => (P1_ k_ ∨ w.heap.size ≤ k_))) (HO1.out) (fun k_ hk => hk))))) (Reps.none _ _))); intro v235 w4 ho5 hb hg_ hnew_; clear hg_ hnew_; (first | rw [← Ny234.out] at ho5 | (simp only [Int.reduceToNat] at ho5; rw [← Ny234.out] at ho5)); have n0_ := Aside0.mk (Kd.V_elder' (by (with_reducible repeat (first | apply Kd.V_alloc | apply Kd.V_drewN | apply Kd.V_drew)); exact HO1.out) (Kd.N_base ho5) hb); have n1_ := Aside0.mk (Kd.N_lower ho5 (below_size (by with_reducible repeat first | exact HB.out | apply below_alloc | apply pw_below_drewN | apply below_drew1))); have n2_ := Aside0.mk (below_step (by with_reducible repeat first | exact HB.out | apply below_alloc | apply pw_below_drewN | apply below_drew1) hb); clear HO1; clear HB; have HO1 := n0_; have HO236 := n1_; have HB := n2_; clear n0_ n1_ n2_; clear hb ho5; obtain ⟨Ao6, co6, eo6⟩ := Kd.N_slice HO236.out; subst eo6) | ((with_reducible refine gate_callee (f := 24) rfl ?_); refine goesL_ (some 8) rfl rfl Tryz.func24 (by kernel_rfl) rfl #[.slice A0 l0.length c0, .slice Ao6 y234.length co6] rfl (by (try simp only [List.map_toArray, List.map_cons, List.map_nil]); first | done | rfl | (simp only [List.length_drop, List.length_take]; rfl)) ?_; (with_reducible refine (monzo_CheckAll.calls k _ _ l0 _ _ y234 t237 _ ?side1 ?side2 ?side3 ?side4 A3.out).mono ?_); (case side1 => repeat (first | exact (Kd.C_below HR0.out HB.out) | (with_reducible refine Kd.C_alloc ?_ _) | (with_reducible refine Kd.C_drewN ?_ _) | (with_reducible refine Kd.C_drew ?_))); (case side2 => exact HC0.out); (case side3 => repeat (first | exact (Kd.N_reads' HO236.out).2.2 | (with_reducible refine Kd.C_alloc ?_ _) | (with_reducible refine Kd.C_drewN ?_ _) | (with_reducible refine Kd.C_drew ?_))); (case side4 => exact (Kd.N_reads' HO236.out).2.1); rintro e w' ⟨rfl, ⟨nd, rfl⟩⟩; refine ⟨_, rfl, ?_⟩))
 go_ret
 exact ⟨by first | rfl | (simp [errW_none, errW_some] <;> rfl) | (simp [*, errW_none, errW_some] <;> rfl), by with_reducible repeat first | exact HB.out | apply below_alloc | apply pw_below_drewN | apply below_drew1⟩
def monzo_Sign.f (k : Nat) (l0 : List Int) (l1 : List Int) : Option (Int × Int) := (monzo_Check.f k l0 l1).bind fun t262 => (if t262 = 0 then ((monzo_sides.f k l0 l1).bind fun bt263 => ((g_decimal_Compare.f bt263.1 bt263.2).bind fun t265 => (some (t265, 0)))) else (some (0, t262)))
theorem monzo_Sign.mono : ∀ a0 a1 k, LeO (monzo_Sign.f k a0 a1) (monzo_Sign.f (k + 1) a0 a1) := by
 intro a0 a1 k
 unfold monzo_Sign.f
 repeat' first
   | with_reducible apply monzo_Check.mono
   | with_reducible apply monzo_sides.mono
   | (with_reducible exact LeO.refl _)
   | (with_reducible exact LeO.none _)
   | (with_reducible refine LeO.ite ?_ ?_)
   | (with_reducible refine LeO.bind ?_ (fun _ => ?_))
   | refine LeO.ite ?_ ?_
   | refine LeO.bind ?_ (fun _ => ?_)
theorem monzo_Sign.calls (k : Nat) (A0 : Option Addr) (c0 : Nat) (l0 : List Int) (A1 : Option Addr) (c1 : Nat) (l1 : List Int) (r1 : Int) (r2 : Int) (w : World) (hG : Glob w) (hr0 : Kd.C (Kd.int .i64) w A0 l0.length l0) (hc0 : l0.length ≤ c0) (hr1 : Kd.C (Kd.int .i64) w A1 l1.length l1) (hc1 : l1.length ≤ c1) (h : monzo_Sign.f k l0 l1 = some (r1, r2)) :
  Calls Tryz.prog 22 #[.slice A0 l0.length c0, .slice A1 l1.length c1] w fun e w' => e = .returned (.tuple #[.int .i64 r1, .int .i64 r2]) ∧ Below w.heap.size w w' := by
 have HG := Aside0.mk hG
 clear hG
 have HR0 := Aside0.mk hr0
 have HC0 := Aside0.mk hc0
 clear hr0 hc0
 have HR1 := Aside0.mk hr1
 have HC1 := Aside0.mk hc1
 clear hr1 hc1
 have HB := Aside0.mk (Below.refl w.heap.size w)
 have H : ((monzo_Check.f k l0 l1).bind fun t262 => (if t262 = 0 then ((monzo_sides.f k l0 l1).bind fun bt263 => ((g_decimal_Compare.f bt263.1 bt263.2).bind fun t265 => (some (t265, 0)))) else (some (0, t262)))) = some (r1, r2) := h
 clear h
 replace H := Option.bind_eq_some_iff.mp H
 obtain ⟨t262, A30, H⟩ := H
 replace H : (if t262 = 0 then ((monzo_sides.f k l0 l1).bind fun bt263 => ((g_decimal_Compare.f bt263.1 bt263.2).bind fun t265 => (some (t265, 0)))) else (some (0, t262))) = some (r1, r2) := H
 have A3 := Aside0.mk A30
 clear A30
 by_cases c4 : t262 = 0
 ·rw [if_pos c4] at H
  have c4b0 : (t262 == 0) = true := beq_iff_eq.mpr c4
  have c4b1 : (t262 != 0) = false := bne_eq_false_iff_eq.mpr c4
  clear c4
  replace H := Option.bind_eq_some_iff.mp H
  obtain ⟨⟨t263, t264⟩, A50, H⟩ := H
  replace H : ((g_decimal_Compare.f t263 t264).bind fun t265 => (some (t265, 0))) = some (r1, r2) := H
  have A5 := Aside0.mk A50
  clear A50
  replace H := Option.bind_eq_some_iff.mp H
  obtain ⟨t265, A60, H⟩ := H
  replace H : (some (t265, 0)) = some (r1, r2) := H
  have A6 := Aside0.mk A60
  clear A60
  simp only [Option.some.injEq, Prod.mk.injEq] at H
  obtain ⟨rfl, rfl⟩ := H
  go_enter Tryz.func22, Tryz.ntmps22
  go_wp2_with (first | ((with_reducible refine gate_callee (f := 55) rfl ?_); refine goesL_ (some 9) rfl rfl Tryz.func55 (by kernel_rfl) rfl #[.slice A0 l0.length c0, .slice A1 l1.length c1] rfl (by (try simp only [List.map_toArray, List.map_cons, List.map_nil]); first | done | rfl | (simp only [List.length_drop, List.length_take]; rfl)) ?_; (with_reducible refine (monzo_Check.calls k _ _ l0 (fun k_ => k_ < w.heap.size) _ _ l1 t262 _ ?side1 ?side2 ?side3 A3.out).mono ?_); (case side1 => repeat (first | exact HR0.out | (with_reducible refine Kd.C_alloc ?_ _) | (with_reducible refine Kd.C_drewN ?_ _) | (with_reducible refine Kd.C_drew ?_))); (case side2 => exact HC0.out); (case side3 => exact Kd.V_mk HC1.out (Kd.F_below (Kd.C_F (Kd.heap_int .i64) HR1.out) (by with_reducible repeat first | exact HB.out | apply below_alloc | apply pw_below_drewN | apply below_drew1))); rintro e w7 ⟨rfl, hb⟩; refine ⟨_, rfl, ?_⟩; have n0_ := Aside0.mk (below_step (by with_reducible repeat first | exact HB.out | apply below_alloc | apply pw_below_drewN | apply below_drew1) hb); clear HB; have HB := n0_; clear n0_; (try clear hb); (try clear hb2); (try clear hk); (try clear hi)) | ((with_reducible refine gate_callee (f := 57) rfl ?_); refine goesL_ (some 15) rfl rfl Tryz.func57 (by kernel_rfl) rfl #[.slice A0 l0.length c0, .slice A1 l1.length c1] rfl (by (try simp only [List.map_toArray, List.map_cons, List.map_nil]); first | done | rfl | (simp only [List.length_drop, List.length_take]; rfl)) ?_; (with_reducible refine (monzo_sides.calls k _ _ l0 _ _ l1 t263 t264 _ ?side1 ?side2 ?side3 ?side4 ?side5 A5.out).mono ?_); (case side1 => exact Glob.below HG.out (by with_reducible repeat first | exact HB.out | apply below_alloc | apply pw_below_drewN | apply below_drew1)); (case side2 => repeat (first | exact (Kd.C_below HR0.out HB.out) | (with_reducible refine Kd.C_alloc ?_ _) | (with_reducible refine Kd.C_drewN ?_ _) | (with_reducible refine Kd.C_drew ?_))); (case side3 => exact HC0.out); (case side4 => repeat (first | exact (Kd.C_below HR1.out HB.out) | (with_reducible refine Kd.C_alloc ?_ _) | (with_reducible refine Kd.C_drewN ?_ _) | (with_reducible refine Kd.C_drew ?_))); (case side5 => exact HC1.out); rintro e w8 ⟨rfl, hb⟩; refine ⟨_, rfl, ?_⟩; have n0_ := Aside0.mk (below_step (by with_reducible repeat first | exact HB.out | apply below_alloc | apply pw_below_drewN | apply below_drew1) hb); clear HB; have HB := n0_; clear n0_; (try clear hb); (try clear hb2); (try clear hk); (try clear hi)) | ((with_reducible refine gate_callee (f := 56) rfl ?_); refine goesL_ (some 18) rfl rfl Tryz.func56 (by kernel_rfl) rfl #[.string t263, .string t264] rfl (by (try simp only [List.map_toArray, List.map_cons, List.map_nil]); first | done | rfl | (simp only [List.length_drop, List.length_take]; rfl)) ?_; (with_reducible refine (g_decimal_Compare.calls t263 t264 t265 _ A6.out).mono ?_); rintro e w9 ⟨rfl, hb⟩; refine ⟨_, rfl, ?_⟩; have n0_ := Aside0.mk (below_step (by with_reducible repeat first | exact HB.out | apply below_alloc | apply pw_below_drewN | apply below_drew1) hb); clear HB; have HB := n0_; clear n0_; (try clear hb); (try clear hb2); (try clear hk); (try clear hi)))
  go_ret2
  exact ⟨by first | rfl | (simp [errW_none, errW_some] <;> rfl) | (simp [*, errW_none, errW_some] <;> rfl), by with_reducible repeat first | exact HB.out | apply below_alloc | apply pw_below_drewN | apply below_drew1⟩
 ·rw [if_neg c4] at H
  have c4b0 : (t262 == 0) = false := beq_eq_false_iff_ne.mpr c4
  have c4b1 : (t262 != 0) = true := bne_iff_ne.mpr c4
  simp only [Option.some.injEq, Prod.mk.injEq] at H
  obtain ⟨rfl, rfl⟩ := H
  go_enter Tryz.func22, Tryz.ntmps22
  go_wp2_with (first | ((with_reducible refine gate_callee (f := 55) rfl ?_); refine goesL_ (some 9) rfl rfl Tryz.func55 (by kernel_rfl) rfl #[.slice A0 l0.length c0, .slice A1 l1.length c1] rfl (by (try simp only [List.map_toArray, List.map_cons, List.map_nil]); first | done | rfl | (simp only [List.length_drop, List.length_take]; rfl)) ?_; (with_reducible refine (monzo_Check.calls k _ _ l0 (fun k_ => k_ < w.heap.size) _ _ l1 t262 _ ?side1 ?side2 ?side3 A3.out).mono ?_); (case side1 => repeat (first | exact HR0.out | (with_reducible refine Kd.C_alloc ?_ _) | (with_reducible refine Kd.C_drewN ?_ _) | (with_reducible refine Kd.C_drew ?_))); (case side2 => exact HC0.out); (case side3 => exact Kd.V_mk HC1.out (Kd.F_below (Kd.C_F (Kd.heap_int .i64) HR1.out) (by with_reducible repeat first | exact HB.out | apply below_alloc | apply pw_below_drewN | apply below_drew1))); rintro e w10 ⟨rfl, hb⟩; refine ⟨_, rfl, ?_⟩; have n0_ := Aside0.mk (below_step (by with_reducible repeat first | exact HB.out | apply below_alloc | apply pw_below_drewN | apply below_drew1) hb); clear HB; have HB := n0_; clear n0_; (try clear hb); (try clear hb2); (try clear hk); (try clear hi)))
  go_ret2
  exact ⟨by first | rfl | (simp [errW_none, errW_some] <;> rfl) | (simp [*, errW_none, errW_some] <;> rfl), by with_reducible repeat first | exact HB.out | apply below_alloc | apply pw_below_drewN | apply below_drew1⟩
end Go.Proofs.YtobdccgpbohpiaaGreatDoor.F
