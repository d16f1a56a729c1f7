/- Ch: a part of the proof. -/
import Derived.Test.YtobdccgpbohpiaaGreatDoorCh14
import Derived.Test.YtobdccgpbohpiaaGreatDoorCh20
import Derived.Test.YtobdccgpbohpiaaGreatDoorCh22
import Derived.Test.YtobdccgpbohpiaaGreatDoorCh26
namespace Go.Proofs.YtobdccgpbohpiaaGreatDoor.F
set_option maxHeartbeats 8000000
set_option maxRecDepth 100000
open Go.RowKit Go.Proofs.YtobdccgpbohpiaaGreatDoorW.PrintWords Go.Proofs.YtobdccgpbohpiaaGreatDoorW.PrintLast Go.Proofs.YtobdccgpbohpiaaGreatDoorW.PrintMore
attribute [local go_sem] max2_int min2_int max_two min_two max_three min_three max_four min_four
set_option linter.unusedVariables false
set_option linter.unusedSimpArgs false
def comma_Records.l0 : Nat → Int → List (List Int) → List (List Int) → Int → Int → List Int → Int → List Int → Option ((List (List Int)) × Int)
 | 0, _, _, _, _, _, _, _, _ => none
 | k + 1, x5, x6, x16, x17, x18, x538000, x538001, x538002 => if x18 < x17 then (if 0 ≤ x18 then (if x18 < (x16.length : Int) then (if (x6.length : Int) > 0 then (if 0 ≤ (wrap64 ((x6.length : Int) - 1)) then (if (wrap64 ((x6.length : Int) - 1)) < (x6.length : Int) then ((monzo_Compare.f k x538000 (rd_L1 x16 x18) (rd_L1 x6 (wrap64 ((x6.length : Int) - 1)))).bind fun bt544 => (if bt544.1 ≥ 0 then (comma_Records.l0 k x5 x6 x16 x17 (wrap64 (x18 + 1)) x538000 x538001 x538002) else (if x6.length < 5864062014805 then (comma_Records.l0 k x5 (x6 ++ [rd_L1 x16 x18]) x16 x17 (wrap64 (x18 + 1)) x538000 x538001 x538002) else (none)))) else (none)) else (none)) else (if x6.length < 5864062014805 then (comma_Records.l0 k x5 (x6 ++ [rd_L1 x16 x18]) x16 x17 (wrap64 (x18 + 1)) x538000 x538001 x538002) else (none))) else (none)) else (none)) else (some (x6, x5))
def comma_Records.f (k : Nat) (l0_0 : List Int) (a0_1 : Int) (l0_2 : List Int) : Option ((List (List Int)) × Int) := (comma_List.f k l0_0 a0_1 l0_2).bind fun bt538 => (comma_Records.l0 k bt538.2 ([] : List (List Int)) bt538.1 (bt538.1.length : Int) 0 l0_0 a0_1 l0_2)
theorem comma_Records.mono_l : ∀ k, (∀ y0 y1 y2 y3 y4 y5 y6 y7, LeO (comma_Records.l0 k y0 y1 y2 y3 y4 y5 y6 y7) (comma_Records.l0 (k + 1) y0 y1 y2 y3 y4 y5 y6 y7))
 | 0 => fun _ _ _ _ _ _ _ _ r h => by simp [comma_Records.l0] at h
 | k + 1 => by
  have ih0 := comma_Records.mono_l k
  ·intro y0 y1 y2 y3 y4 y5 y6 y7
   unfold comma_Records.l0
   repeat' first
   | (with_reducible exact ih0 _ _ _ _ _ _ _ _)
   | with_reducible apply comma_List.mono
   | with_reducible apply monzo_Compare.mono
   | (with_reducible exact LeO.refl _)
   | (with_reducible exact LeO.none _)
   | (with_reducible refine LeO.ite ?_ ?_)
   | (with_reducible refine LeO.bind ?_ (fun _ => ?_))
   | refine LeO.ite ?_ ?_
   | refine LeO.bind ?_ (fun _ => ?_)
theorem comma_Records.mono : ∀ a0 a1 a2 k, LeO (comma_Records.f k a0 a1 a2) (comma_Records.f (k + 1) a0 a1 a2) := by
 intro a0 a1 a2 k
 have ih0 := comma_Records.mono_l k
 unfold comma_Records.f
 repeat' first
   | (with_reducible exact ih0 _ _ _ _ _ _ _ _)
   | with_reducible apply comma_List.mono
   | with_reducible apply monzo_Compare.mono
   | (with_reducible exact LeO.refl _)
   | (with_reducible exact LeO.none _)
   | (with_reducible refine LeO.ite ?_ ?_)
   | (with_reducible refine LeO.bind ?_ (fun _ => ?_))
   | refine LeO.ite ?_ ?_
   | refine LeO.bind ?_ (fun _ => ?_)
def comma_Records.T7 : Bool × List (List Nat × List Nat) := (true, [([], []), ([0], [0]), ([], []), ([], []), ([], []), ([4], [4]), ([5], [5]), ([3, 6], [3, 6]), ([7], [7]), ([1, 2, 8], [1, 2, 8]), ([9], [9]), ([10], [10]), ([10], [10]), ([11, 9, 0, 1, 2, 3, 4, 5, 6, 7, 8, 9, 10, 11], [11]), ([12, 13, 0, 1, 2, 3, 4, 5, 6, 7, 8, 9, 10, 11, 12, 13], [12])])
def comma_Records.B7 : List Nat := [0, 1, 0, 0, 0, 16, 48, 120, 248, 511, 1023, 2047, 2047, 4095, 16383]
theorem comma_Records.tab7 : rtab .any (opsOf Tryz.f25 7) = comma_Records.T7 := by kernel_rfl
theorem comma_Records.bits7 : waitsOk comma_Records.T7.2 comma_Records.B7 = true := by kernel_rfl
theorem comma_Records.calls (k : Nat) (A0_0 : Option Addr) (c0_0 : Nat) (l0_0 : List Int) (a0_1 : Int) (A0_2 : Option Addr) (c0_2 : Nat) (l0_2 : List Int) (r1 : List (List Int)) (r2 : Int) (w : World) (hG : Glob w) (hr0_0 : Kd.C (Kd.int .i64) w A0_0 l0_0.length l0_0) (hc0_0 : l0_0.length ≤ c0_0) (hr0_2 : Kd.C (Kd.int .i64) w A0_2 l0_2.length l0_2) (hc0_2 : l0_2.length ≤ c0_2) (h : comma_Records.f k l0_0 a0_1 l0_2 = some (r1, r2)) :
  Calls Tryz.prog 25 #[.agg #[.slice A0_0 l0_0.length c0_0, .int .i64 a0_1, .slice A0_2 l0_2.length c0_2]] w fun e w' => ∃ v0_ : Value, e = .returned (.tuple #[v0_, .int .i64 r2]) ∧ Kd.N (Kd.slice 3 (Kd.int .i64)) 30 w' w.heap.size (fun k_ => (w.heap.size ≤ k_)) v0_ r1 ∧ Below w.heap.size w w' := by
 have hu32 := Tryz.underlying32
 have HG := Aside0.mk hG
 clear hG
 have HR0_0 := Aside0.mk hr0_0
 have HC0_0 := Aside0.mk hc0_0
 clear hr0_0 hc0_0
 have HR0_2 := Aside0.mk hr0_2
 have HC0_2 := Aside0.mk hc0_2
 clear hr0_2 hc0_2
 have HB := Aside0.mk (Below.refl w.heap.size w)
 have H : ((comma_List.f k l0_0 a0_1 l0_2).bind fun bt538 => (comma_Records.l0 k bt538.2 ([] : List (List Int)) bt538.1 (bt538.1.length : Int) 0 l0_0 a0_1 l0_2)) = some (r1, r2) := h
 clear h
 replace H := Option.bind_eq_some_iff.mp H
 obtain ⟨⟨t538, t541⟩, A20, H⟩ := H
 replace H : (comma_Records.l0 k t541 ([] : List (List Int)) t538 (t538.length : Int) 0 l0_0 a0_1 l0_2) = some (r1, r2) := H
 have A2 := Aside0.mk A20
 clear A20
 have H' := Aside0.mk H
 clear H
 go_enter Tryz.func25, Tryz.ntmps25
 go_wp2_with (first | ((with_reducible refine gate_dst (N := 1) rfl ?_); refine box_event ?hg (N := 1) ?hd (cs := #[.slice A0_0 l0_0.length c0_0, .int .i64 a0_1, .slice A0_2 l0_2.length c0_2]) (t := 32) ?hr ?_; (case hd => rfl); (case hg => rfl); (case hr => first | (go_simp; done) | (go_simp; rfl)); intro gb537 hg w3 hbox hb; have n0_ := Aside0.mk (below_step (by with_reducible repeat first | exact HB.out | apply below_alloc | apply pw_below_drewN | apply below_drew1) hb); have n1_ := Aside0.mk (hbox); have n2_ := Aside0.mk ((by rw [hg]; exact (below_size (by with_reducible repeat first | exact HB.out | apply below_alloc | apply pw_below_drewN | apply below_drew1)) : w.heap.size ≤ gb537)); have n3_ := Aside0.mk ((by rw [hg]; exact (below_size (by with_reducible repeat first | exact HB.out | apply below_alloc | apply pw_below_drewN | apply below_drew1)) : w.heap.size ≤ gb537)); clear HB; have HB := n0_; have BK537 := n1_; have GW537 := n2_; have GE537 := n3_; clear n0_ n1_ n2_ n3_; clear hb hbox hg; have hcz4_0 : w3.cell? ⟨gb537, 0, none⟩ = some (.slice A0_0 l0_0.length c0_0) := (blk_cell BK537.out 0).trans rfl; have hcz4_1 : w3.cell? ⟨gb537, 1, none⟩ = some (.int .i64 a0_1) := (blk_cell BK537.out 1).trans rfl; have hcz4_2 : w3.cell? ⟨gb537, 2, none⟩ = some (.slice A0_2 l0_2.length c0_2) := (blk_cell BK537.out 2).trans rfl; have hfz4_0 := blk_frozen BK537.out 0; have hfz4_1 := blk_frozen BK537.out 1; have hfz4_2 := blk_frozen BK537.out 2) | ((with_reducible refine gate_callee (f := 14) rfl ?_); refine goesL_ (some 13) rfl rfl Tryz.func14 (by kernel_rfl) rfl #[.agg #[.slice A0_0 l0_0.length c0_0, .int .i64 a0_1, .slice A0_2 l0_2.length c0_2]] rfl (by (try simp only [List.map_toArray, List.map_cons, List.map_nil]); first | done | rfl | (simp only [List.length_drop, List.length_take]; rfl)) ?_; (with_reducible refine (comma_List.calls k _ _ l0_0 a0_1 _ _ l0_2 t538 t541 _ ?side1 ?side2 ?side3 ?side4 ?side5 A2.out).mono ?_); (case side1 => exact Glob.below HG.out (by repeat (first | (with_reducible first | exact HB.out | apply below_alloc | apply pw_below_drewN | apply below_drew1 | refine below_set ?_ GE537.out) | exact HB.out))); (case side2 => repeat (first | exact (Kd.C_below HR0_0.out HB.out) | (with_reducible refine Kd.C_alloc ?_ _) | (with_reducible refine Kd.C_drewN ?_ _) | (with_reducible refine Kd.C_drew ?_))); (case side3 => exact HC0_0.out); (case side4 => repeat (first | exact (Kd.C_below HR0_2.out HB.out) | (with_reducible refine Kd.C_alloc ?_ _) | (with_reducible refine Kd.C_drewN ?_ _) | (with_reducible refine Kd.C_drew ?_))); (case side5 => exact HC0_2.out); rintro e w5 ⟨v539, rfl, ho0, hb⟩; refine ⟨_, rfl, ?_⟩; have n0_ := Aside0.mk (Kd.N_lower (Kd.N_mono (ok' := fun k_ => (w.heap.size ≤ k_) ∧ k_ ≠ gb537) ho0 (fun k_ hk_ => ⟨(Nat.le_trans (below_size (by repeat (first | (with_reducible first | exact HB.out | apply below_alloc | apply pw_below_drewN | apply below_drew1 | refine below_set ?_ GE537.out) | exact HB.out))) hk_), (Kd.freshB (g := gb537) (o := .cells #[.slice A0_0 l0_0.length c0_0, .int .i64 a0_1, .slice A0_2 l0_2.length c0_2] 32 (0, 0)) (by (with_reducible repeat (first | refine blk_drewN ?_ _ | refine blk_drew ?_ | refine blk_alloc ?_ _)); exact BK537.out) k_ hk_)⟩)) (below_size (by repeat (first | (with_reducible first | exact HB.out | apply below_alloc | apply pw_below_drewN | apply below_drew1 | refine below_set ?_ GE537.out) | exact HB.out)))); have n1_ := Aside0.mk (blk_below (g := gb537) (o := .cells #[.slice A0_0 l0_0.length c0_0, .int .i64 a0_1, .slice A0_2 l0_2.length c0_2] 32 (0, 0)) (by (with_reducible repeat (first | refine blk_drewN ?_ _ | refine blk_drew ?_ | refine blk_alloc ?_ _)); exact BK537.out) hb); have n2_ := Aside0.mk (below_step (by repeat (first | (with_reducible first | exact HB.out | apply below_alloc | apply pw_below_drewN | apply below_drew1 | refine below_set ?_ GE537.out) | exact HB.out)) hb); clear BK537; clear HB; have HO540 := n0_; have BK537 := n1_; have HB := n2_; clear n0_ n1_ n2_; (try clear hb); (try clear hb2); (try clear hk); (try clear hi); (try clear ho0); obtain ⟨Ao6, co6, eo6⟩ := Kd.N_slice HO540.out; subst eo6))
 go_loopg [6, 18] k (fun kq v6 v18 w' => ∃ (x6_1 : List (List Int)) (x18_1 : Int), v18 = .int .i64 x18_1 ∧ Aside0 (comma_Records.l0 kq t541 x6_1 t538 (t538.length : Int) x18_1 l0_0 a0_1 l0_2 = some (r1, r2)) ∧ Aside0 (kq ≤ k) ∧ Aside0 (Kd.N (Kd.slice 3 (Kd.int .i64)) 30 w' w.heap.size (fun k_ => (w.heap.size ≤ k_) ∧ some k_ ≠ ((.slice Ao6 t538.length co6) : Value).ownBlock ∧ k_ ≠ gb537) v6 x6_1) ∧ Aside0 (Kd.N (Kd.slice 3 (Kd.int .i64)) 30 w' w.heap.size (fun k_ => (w.heap.size ≤ k_) ∧ some k_ ≠ (v6 : Value).ownBlock ∧ k_ ≠ gb537) (.slice Ao6 t538.length co6) t538) ∧ Aside0 (w'.heap[gb537]? = some (.cells #[(.slice A0_0 l0_0.length c0_0), .int .i64 a0_1, (.slice A0_2 l0_2.length c0_2)] 32 (0, 0))) ∧ Aside0 (Below w.heap.size w w'))
 case atStart => exact ⟨(([] : List (List Int))), (0), (by first | rfl | (simp; done) | (simp [*]; done)), H', ⟨Nat.le_refl _⟩, ⟨by first | exact Kd.S_nil _ _ _ _ _ | exact Kd.N_nil _ _ _ _ _ | exact Kd.V_nil _ _ _ _ _ | exact Kd.Q_nil _ _ _ _ _ | exact Kd.R_nil _ _ _ _ _⟩, ⟨by (with_reducible repeat (first | apply Kd.N_alloc | apply Kd.N_drewN | apply Kd.N_drew)); exact Kd.N_mono HO540.out (fun _ hk => ⟨hk.1, ⟨(by simp [Value.ownBlock]), hk.2⟩⟩)⟩, ⟨by (with_reducible repeat (first | refine blk_drewN ?_ _ | refine blk_drew ?_ | refine blk_alloc ?_ _)); exact BK537.out⟩, ⟨by repeat (first | (with_reducible first | exact HB.out | apply below_alloc | apply pw_below_drewN | apply below_drew1 | refine below_set ?_ GE537.out) | exact HB.out)⟩⟩
 case round =>
  clear H'
  try clear c1
  try clear c2
  try clear p2
  try clear hcz4_0
  try clear hcz4_1
  try clear hcz4_2
  try clear hfz4_0
  try clear hfz4_1
  try clear hfz4_2
  obtain ⟨x6_1, x18_1, rfl, HA, HK1, HO_6, HO_16, BK537, HB⟩ := hrel
  cases gk with
  | zero => exact absurd HA.out (by simp [comma_Records.l0])
  | succ k1 =>
   have H := HA.out
   clear HA
   simp only [comma_Records.l0] at H
   by_cases c7 : x18_1 < (t538.length : Int)
   ·rw [if_pos c7] at H
    have c7b0 : decide (x18_1 < (t538.length : Int)) = true := decide_eq_true c7
    clear c7
    by_cases c8 : 0 ≤ x18_1
    ·rw [if_pos c8] at H
     have c8b0 : decide (0 ≤ x18_1) = true := decide_eq_true c8
     clear c8
     by_cases c9 : x18_1 < (t538.length : Int)
     ·rw [if_pos c9] at H
      have c9b0 : decide (x18_1 < (t538.length : Int)) = true := decide_eq_true c9
      clear c9
      by_cases c10 : (x6_1.length : Int) > 0
      ·rw [if_pos c10] at H
       have c10b0 : decide (0 < (x6_1.length : Int)) = true := decide_eq_true c10
       have c10b1 : decide (0 < x6_1.length) = true := decide_eq_true (by omega)
       clear c10
       obtain ⟨ji11, hji11⟩ : ∃ j_ : Int, (wrap64 ((x6_1.length : Int) - 1)) = j_ := ⟨_, rfl⟩
       replace H : (if 0 ≤ (ji11) then (if (ji11) < (x6_1.length : Int) then ((monzo_Compare.f k1 l0_0 (rd_L1 t538 x18_1) (rd_L1 x6_1 (ji11))).bind fun bt544 => (if bt544.1 ≥ 0 then (comma_Records.l0 k1 t541 x6_1 t538 (t538.length : Int) (wrap64 (x18_1 + 1)) l0_0 a0_1 l0_2) else (if x6_1.length < 5864062014805 then (comma_Records.l0 k1 t541 (x6_1 ++ [rd_L1 t538 x18_1]) t538 (t538.length : Int) (wrap64 (x18_1 + 1)) l0_0 a0_1 l0_2) else (none)))) else (none)) else (none)) = some (r1, r2) := by first | (rw [hji11] at H; exact H) | (simp only [hji11] at H ⊢; exact H)
       have hji11w : (IntKind.i64.wrap ((x6_1.length : Int) - 1)) = ji11 := (i64_w _).trans hji11
       by_cases c12 : 0 ≤ (ji11)
       ·rw [if_pos c12] at H
        have c12b0 : decide (0 ≤ (ji11)) = true := decide_eq_true c12
        clear c12
        by_cases c13 : (ji11) < (x6_1.length : Int)
        ·rw [if_pos c13] at H
         have c13b0 : decide ((ji11) < (x6_1.length : Int)) = true := decide_eq_true c13
         clear c13
         replace H := Option.bind_eq_some_iff.mp H
         obtain ⟨⟨t544, t545⟩, A140, H⟩ := H
         replace H : (if t544 ≥ 0 then (comma_Records.l0 k1 t541 x6_1 t538 (t538.length : Int) (wrap64 (x18_1 + 1)) l0_0 a0_1 l0_2) else (if x6_1.length < 5864062014805 then (comma_Records.l0 k1 t541 (x6_1 ++ [rd_L1 t538 x18_1]) t538 (t538.length : Int) (wrap64 (x18_1 + 1)) l0_0 a0_1 l0_2) else (none))) = some (r1, r2) := H
         have A14 := Aside0.mk A140
         clear A140
         by_cases c15 : t544 ≥ 0
         ·rw [if_pos c15] at H
          have c15b0 : decide (0 ≤ t544) = true := decide_eq_true c15
          clear c15
          have H' := Aside0.mk H
          clear H
          have p542 : 0 ≤ (x18_1 : Int) := of_decide_eq_true (by with_reducible assumption)
          have q542 : x18_1 < (t538.length : Int) := of_decide_eq_true (by with_reducible assumption)
          obtain ⟨ad542, A542_0, c542_0, e542, hx542_0, hl542_0, hi542_0⟩ := at_L1 (Kd.N_reads' HO_16.out).2.2 x18_1 p542 q542
          cases e542
          obtain ⟨ce542, hce542, hMe542, hcc542⟩ := Kd.N_get HO_16.out [] x18_1 p542 (by first | exact q542 | exact of_decide_eq_true (by with_reducible assumption) | (have e_ := (Kd.N_reads' HO_16.out).1; omega))
          obtain ⟨ua542_0, uc542_0, rfl, ul542_0, ge542_0⟩ := Kd.FK_slice_open hMe542
          have hv542_0 := hcc542 0 _ rfl
          rw [Nat.add_zero, show ((Kd.slice 3 (Kd.int .i64))).sz = 1 from rfl, Nat.mul_one] at hv542_0
          replace hv542_0 := Option.some.inj (hv542_0.symm.trans hx542_0)
          injection hv542_0 with hva_ hvn_ hvc_
          rw [hva_] at ge542_0
          rw [hvc_] at ul542_0
          have HL542_0 := Aside0.mk (show Kd.V (Kd.int .i64) 3 _ w.heap.size _ _ (rd_L1 t538 x18_1) from Kd.V_mk ul542_0 ge542_0)
          clear hva_ hvn_ hvc_ ge542_0 ul542_0
          clear hcc542 hce542
          have HR542_0 := Aside0.mk hi542_0
          have HC542_0 := Aside0.mk hl542_0
          clear hi542_0 hl542_0
          replace p542 := eq_true p542
          replace q542 := eq_true q542
          obtain ⟨Ao16, co16, eo16⟩ := Kd.N_slice HO_6.out
          subst eo16
          try go_wp2
          have n0_ := Aside0.mk (Kd.N_drew HO_6.out)
          have n1_ := Aside0.mk (Kd.N_drew HO_16.out)
          have n2_ := Aside0.mk (Kd.V_drew HL542_0.out)
          have n3_ := Aside0.mk (blk_drew BK537.out)
          have n4_ := Aside0.mk (Kd.C_drew HR542_0.out)
          have n5_ := Aside0.mk (below_drew1 HB.out)
          clear HO_6
          clear HO_16
          clear HL542_0
          clear BK537
          clear HR542_0
          clear HB
          have HO_6 := n0_
          have HO_16 := n1_
          have HL542_0 := n2_
          have BK537 := n3_
          have HR542_0 := n4_
          have HB := n5_
          clear n0_ n1_ n2_ n3_ n4_ n5_
          have p543 : 0 ≤ ((ji11) : Int) := of_decide_eq_true (by with_reducible assumption)
          have q543 : (ji11) < (x6_1.length : Int) := of_decide_eq_true (by with_reducible assumption)
          obtain ⟨ad543, A543_0, c543_0, e543, hx543_0, hl543_0, hi543_0⟩ := at_L1 (Kd.N_reads' HO_6.out).2.2 (ji11) p543 q543
          cases e543
          obtain ⟨ce543, hce543, hMe543, hcc543⟩ := Kd.N_get HO_6.out [] (ji11) p543 (by first | exact q543 | exact of_decide_eq_true (by with_reducible assumption) | (have e_ := (Kd.N_reads' HO_6.out).1; omega))
          obtain ⟨ua543_0, uc543_0, rfl, ul543_0, ge543_0⟩ := Kd.FK_slice_open hMe543
          have hv543_0 := hcc543 0 _ rfl
          rw [Nat.add_zero, show ((Kd.slice 3 (Kd.int .i64))).sz = 1 from rfl, Nat.mul_one] at hv543_0
          replace hv543_0 := Option.some.inj (hv543_0.symm.trans hx543_0)
          injection hv543_0 with hva_ hvn_ hvc_
          rw [hva_] at ge543_0
          rw [hvc_] at ul543_0
          have HL543_0 := Aside0.mk (show Kd.V (Kd.int .i64) 3 _ w.heap.size _ _ (rd_L1 x6_1 (ji11)) from Kd.V_mk ul543_0 ge543_0)
          clear hva_ hvn_ hvc_ ge543_0 ul543_0
          clear hcc543 hce543
          have HR543_0 := Aside0.mk hi543_0
          have HC543_0 := Aside0.mk hl543_0
          clear hi543_0 hl543_0
          replace p543 := eq_true p543
          replace q543 := eq_true q543
          refine start_ (n := 15) (S := fun w' => w'.cell? ⟨gb537, 0, none⟩ = some (.slice A0_0 l0_0.length c0_0) ∧ w'.cell? ⟨gb537, 1, none⟩ = some (.int .i64 a0_1) ∧ w'.cell? ⟨gb537, 2, none⟩ = some (.slice A0_2 l0_2.length c0_2) ∧ w'.cell? (ad543.add ((ji11)).toNat) = some (.slice A543_0 (rd_L1 x6_1 (ji11)).length c543_0)) (ds := []) #[false, false, false, false, false, false, false, false, false, false, false, false, false, false, false] (by kernel_rfl) rfl rfl ⟨(blk_cell BK537.out 0).trans rfl, (blk_cell BK537.out 1).trans rfl, (blk_cell BK537.out 2).trans rfl, hx543_0⟩ (fun hHeld => ?_); refine with_tabW comma_Records.tab7 comma_Records.bits7 (fun HT_ HW_ => ?_)
          generalize wr.drew = w17 at HO_6 HO_16 HL542_0 BK537 HR542_0 HB HL543_0 HR543_0 hx543_0 hHeld ⊢
          refine pure_ (i := 0) (N := some 26) (v := ?_) (a' := ?_) #[true, false, false, false, false, false, false, false, false, false, false, false, false, false, false] rfl rfl (any_of HT_.out (by kernel_rfl)) (fun _ _ _ h => h) (Or.inl ⟨by rfl, ?_⟩) ?_ ?_
          rotate_left
          ·intro w'
           go_simp
           with_reducible rfl
          rotate_left
          ·simp only [Act.put, List.setIfInBounds_toArray, List.set_cons_zero, List.set_cons_succ, i64_w, i32_w]
           rfl
          refine pure_ (i := 2) (N := some 28) (v := ?_) (a' := ?_) #[true, false, true, false, false, false, false, false, false, false, false, false, false, false, false] rfl rfl (any_of HT_.out (by kernel_rfl)) (fun _ _ _ h => h) (Or.inl ⟨by rfl, ?_⟩) ?_ ?_
          rotate_left
          ·intro w'
           go_simp
           with_reducible rfl
          rotate_left
          ·simp only [Act.put, List.setIfInBounds_toArray, List.set_cons_zero, List.set_cons_succ, i64_w, i32_w]
           rfl
          refine pure_ (i := 3) (N := some 29) (v := ?_) (a' := ?_) #[true, false, true, true, false, false, false, false, false, false, false, false, false, false, false] rfl rfl (any_of HT_.out (by kernel_rfl)) (fun _ _ _ h => h) (Or.inl ⟨by rfl, ?_⟩) ?_ ?_
          rotate_left
          ·intro w'
           go_simp
           with_reducible rfl
          rotate_left
          ·simp only [Act.put, List.setIfInBounds_toArray, List.set_cons_zero, List.set_cons_succ, i64_w, i32_w]
           rfl
          refine pure_ (i := 4) (N := some 30) (v := ?_) (a' := ?_) #[true, false, true, true, true, false, false, false, false, false, false, false, false, false, false] rfl rfl (any_of HT_.out (by kernel_rfl)) (fun _ _ _ h => h) (Or.inl ⟨by rfl, ?_⟩) ?_ ?_
          rotate_left
          ·intro w'
           go_simp
           with_reducible rfl
          rotate_left
          ·simp only [Act.put, List.setIfInBounds_toArray, List.set_cons_zero, List.set_cons_succ, i64_w, i32_w]
           rfl
          refine pure_ (i := 5) (N := some 31) (v := ?_) (a' := ?_) #[true, false, true, true, true, true, false, false, false, false, false, false, false, false, false] rfl rfl (any_of HT_.out (by kernel_rfl)) (fun _ _ _ h => h) (Or.inl ⟨by rfl, ?_⟩) ?_ ?_
          rotate_left
          ·intro w'
           go_simp
           with_reducible rfl
          rotate_left
          ·simp only [Act.put, List.setIfInBounds_toArray, List.set_cons_zero, List.set_cons_succ, i64_w, i32_w]
           rfl
          refine pure_ (i := 6) (N := some 32) (v := ?_) (a' := ?_) #[true, false, true, true, true, true, true, false, false, false, false, false, false, false, false] rfl rfl (any_of HT_.out (by kernel_rfl)) (fun _ _ _ h => h) (Or.inl ⟨by rfl, ?_⟩) ?_ ?_
          rotate_left
          ·intro w'
           go_simp
           with_reducible rfl
          rotate_left
          ·simp only [Act.put, List.setIfInBounds_toArray, List.set_cons_zero, List.set_cons_succ, i64_w, i32_w]
           rfl
          refine pure_ (i := 7) (N := some 33) (v := ?_) (a' := ?_) #[true, false, true, true, true, true, true, true, false, false, false, false, false, false, false] rfl rfl (any_of HT_.out (by kernel_rfl)) (fun _ _ _ h => h) (Or.inl ⟨by rfl, ?_⟩) ?_ ?_
          rotate_left
          ·intro w'
           go_simp
           with_reducible rfl
          rotate_left
          ·simp only [Act.put, List.setIfInBounds_toArray, List.set_cons_zero, List.set_cons_succ, i64_w, i32_w]
           rfl
          refine take_ (i := 1) (N := some 27) (v := ?_) (a' := ?_) #[true, true, true, true, true, true, true, true, false, false, false, false, false, false, false] rfl rfl (take_ofW HT_.out HW_.out (by kernel_rfl)) (fun _ _ _ h => h) (Or.inl ⟨by rfl, ?_⟩) hHeld ?_ ?_
          rotate_left
          ·rintro w' ⟨s0, s1, s2, s3⟩
           go_simp
           with_reducible rfl
          rotate_left
          ·simp only [Act.put, List.setIfInBounds_toArray, List.set_cons_zero, List.set_cons_succ, i64_w, i32_w]
           rfl
          refine take_ (i := 8) (N := some 34) (v := ?_) (a' := ?_) #[true, true, true, true, true, true, true, true, true, false, false, false, false, false, false] rfl rfl (take_ofW HT_.out HW_.out (by kernel_rfl)) (fun _ _ _ h => h) (Or.inl ⟨by rfl, ?_⟩) hHeld ?_ ?_
          rotate_left
          ·rintro w' ⟨s0, s1, s2, s3⟩
           go_simp
           with_reducible rfl
          rotate_left
          ·simp only [Act.put, List.setIfInBounds_toArray, List.set_cons_zero, List.set_cons_succ, i64_w, i32_w]
           rfl
          refine one_ (i := 9) (N := some 35) #[true, true, true, true, true, true, true, true, true, true, false, false, false, false, false] rfl rfl (one_of HT_.out (by kernel_rfl)) (by decide) (fun K hK => ?_)
          refine goes_ Tryz.func59 (by kernel_rfl) rfl #[.slice A0_0 l0_0.length c0_0, .slice A542_0 (rd_L1 t538 x18_1).length c542_0, .slice A543_0 (rd_L1 x6_1 (ji11)).length c543_0] (by rfl) rfl rfl (by (try simp only [List.map_toArray, List.map_cons, List.map_nil]); first | done | (simp only [hji11]; rfl) | rfl | (simp only [List.length_drop, List.length_take]; rfl)) ?_
          with_reducible refine (monzo_Compare.calls k1 _ _ l0_0 (fun k_ => (((w.heap.size ≤ k_) ∧ (some k_ ≠ (.slice (some ad543) x6_1.length co16 : Value).ownBlock ∧ k_ ≠ gb537)) ∧ some k_ ≠ (.slice (some ad542) t538.length co6 : Value).ownBlock)) _ _ (rd_L1 t538 x18_1) (fun k_ => (((w.heap.size ≤ k_) ∧ (some k_ ≠ (.slice (some ad542) t538.length co6 : Value).ownBlock ∧ k_ ≠ gb537)) ∧ some k_ ≠ (.slice (some ad543) x6_1.length co16 : Value).ownBlock)) _ _ (rd_L1 x6_1 (ji11)) t544 t545 _ ?side1 ?side2 ?side3 ?side4 ?side5 A14.out).mono ?_
          (case side1 => exact Glob.below HG.out (by repeat (first | (with_reducible first | exact HB.out | apply below_alloc | apply pw_below_drewN | apply below_drew1 | refine below_set ?_ GE537.out) | exact HB.out)))
          (case side2 => repeat (first | exact (Kd.C_below HR0_0.out HB.out) | (with_reducible refine Kd.C_alloc ?_ _) | (with_reducible refine Kd.C_drewN ?_ _) | (with_reducible refine Kd.C_drew ?_)))
          (case side3 => exact HC0_0.out)
          (case side4 => exact HL542_0.out)
          (case side5 => exact HL543_0.out)
          rintro e w18 ⟨rfl, hb⟩
          have HS3_ := (hb.cell (World.block_lt_of_cell? _ _ (hHeld.2.2.2))).trans (hHeld.2.2.2)
          refine ⟨_, rfl, ?_⟩
          have n0_ := Aside0.mk (Kd.N_below (by (with_reducible repeat (first | apply Kd.N_alloc | apply Kd.N_drewN | apply Kd.N_drew)); exact HO_6.out) hb)
          have n1_ := Aside0.mk (Kd.N_below (by (with_reducible repeat (first | apply Kd.N_alloc | apply Kd.N_drewN | apply Kd.N_drew)); exact HO_16.out) hb)
          have n2_ := Aside0.mk (Kd.V_below (by (with_reducible repeat (first | apply Kd.V_alloc | apply Kd.V_drewN | apply Kd.V_drew)); exact HL542_0.out) hb)
          have n3_ := Aside0.mk (Kd.V_below (by (with_reducible repeat (first | apply Kd.V_alloc | apply Kd.V_drewN | apply Kd.V_drew)); exact HL543_0.out) hb)
          have n4_ := Aside0.mk (blk_below (g := gb537) (o := .cells #[.slice A0_0 l0_0.length c0_0, .int .i64 a0_1, .slice A0_2 l0_2.length c0_2] 32 (0, 0)) (by (with_reducible repeat (first | refine blk_drewN ?_ _ | refine blk_drew ?_ | refine blk_alloc ?_ _)); exact BK537.out) hb)
          have n5_ := Aside0.mk (Kd.C_below (by repeat (first | (with_reducible exact HR542_0.out) | (with_reducible refine Kd.C_alloc ?_ _) | (with_reducible refine Kd.C_drewN ?_ _) | (with_reducible refine Kd.C_drew ?_) | exact HR542_0.out)) hb)
          have n6_ := Aside0.mk (Kd.C_below (by repeat (first | (with_reducible exact HR543_0.out) | (with_reducible refine Kd.C_alloc ?_ _) | (with_reducible refine Kd.C_drewN ?_ _) | (with_reducible refine Kd.C_drew ?_) | exact HR543_0.out)) hb)
          have n7_ := Aside0.mk (below_step (by repeat (first | (with_reducible first | exact HB.out | apply below_alloc | apply pw_below_drewN | apply below_drew1 | refine below_set ?_ GE537.out) | exact HB.out)) hb)
          clear HO_6
          clear HO_16
          clear HL542_0
          clear HL543_0
          clear BK537
          clear HR542_0
          clear HR543_0
          clear HB
          have HO_6 := n0_
          have HO_16 := n1_
          have HL542_0 := n2_
          have HL543_0 := n3_
          have BK537 := n4_
          have HR542_0 := n5_
          have HR543_0 := n6_
          have HB := n7_
          clear n0_ n1_ n2_ n3_ n4_ n5_ n6_ n7_
          (try clear hb)
          (try clear hb2)
          (try clear hk)
          (try clear hi)
          refine hK.out _ _ ⟨(blk_cell BK537.out 0).trans rfl, (blk_cell BK537.out 1).trans rfl, (blk_cell BK537.out 2).trans rfl, HS3_⟩ (fun hHeld => ?_)
          clear hK K
          refine norm_ (a' := ?_) ?_ ?_
          rotate_left
          ·show Act.put _ (some 35) _ = _
           simp only [Act.put, List.setIfInBounds_toArray, List.set_cons_zero, List.set_cons_succ, i64_w, i32_w]
           rfl
          refine pure_ (i := 10) (N := some 25) (v := ?_) (a' := ?_) #[true, true, true, true, true, true, true, true, true, true, true, false, false, false, false] rfl rfl (any_of HT_.out (by kernel_rfl)) (fun _ _ _ h => h) (Or.inl ⟨by rfl, ?_⟩) ?_ ?_
          rotate_left
          ·intro w'
           go_simp
           with_reducible rfl
          rotate_left
          ·simp only [Act.put, List.setIfInBounds_toArray, List.set_cons_zero, List.set_cons_succ, i64_w, i32_w]
           rfl
          refine pure_ (i := 11) (N := some 36) (v := ?_) (a' := ?_) #[true, true, true, true, true, true, true, true, true, true, true, true, false, false, false] rfl rfl (any_of HT_.out (by kernel_rfl)) (fun _ _ _ h => h) (Or.inl ⟨by rfl, ?_⟩) ?_ ?_
          rotate_left
          ·intro w'
           go_simp
           with_reducible rfl
          rotate_left
          ·simp only [Act.put, List.setIfInBounds_toArray, List.set_cons_zero, List.set_cons_succ, i64_w, i32_w]
           rfl
          refine pure_ (i := 12) (N := some 37) (v := ?_) (a' := ?_) #[true, true, true, true, true, true, true, true, true, true, true, true, true, false, false] rfl rfl (any_of HT_.out (by kernel_rfl)) (fun _ _ _ h => h) (Or.inl ⟨by rfl, ?_⟩) ?_ ?_
          rotate_left
          ·intro w'
           go_simp
           with_reducible rfl
          rotate_left
          ·simp only [Act.put, List.setIfInBounds_toArray, List.set_cons_zero, List.set_cons_succ, i64_w, i32_w]
           rfl
          refine pure_ (i := 13) (N := some 9) (v := ?_) (a' := ?_) #[true, true, true, true, true, true, true, true, true, true, true, true, true, true, false] rfl rfl (any_of HT_.out (by kernel_rfl)) (fun _ _ _ h => h) (Or.inl ⟨by rfl, ?_⟩) ?_ ?_
          rotate_left
          ·intro w'
           go_simp
           with_reducible rfl
          rotate_left
          ·simp only [Act.put, List.setIfInBounds_toArray, List.set_cons_zero, List.set_cons_succ, i64_w, i32_w]
           rfl
          refine pure_ (i := 14) (N := some 10) (v := ?_) (a' := ?_) #[true, true, true, true, true, true, true, true, true, true, true, true, true, true, true] rfl rfl (any_of HT_.out (by kernel_rfl)) (fun _ _ _ h => h) (Or.inl ⟨by rfl, ?_⟩) ?_ ?_
          rotate_left
          ·intro w'
           go_simp
           with_reducible rfl
          rotate_left
          ·simp only [Act.put, List.setIfInBounds_toArray, List.set_cons_zero, List.set_cons_succ, i64_w, i32_w]
           rfl
          refine done_ (done_of HT_.out (by kernel_rfl)) ?_
          try go_wp2
          go_roundg k1
          case measure => have := HK1.out; omega
          case rel => exact ⟨(x6_1), (wrap64 (x18_1 + 1)), (by first | rfl | (simp; done) | (simp [*]; done)), H', ⟨by have := HK1.out; omega⟩, ⟨by (with_reducible repeat (first | apply Kd.N_alloc | apply Kd.N_drewN | apply Kd.N_drew)); exact HO_6.out⟩, ⟨by (with_reducible repeat (first | apply Kd.N_alloc | apply Kd.N_drewN | apply Kd.N_drew)); exact HO_16.out⟩, ⟨by (with_reducible repeat (first | refine blk_drewN ?_ _ | refine blk_drew ?_ | refine blk_alloc ?_ _)); exact BK537.out⟩, ⟨by repeat (first | (with_reducible first | exact HB.out | apply below_alloc | apply pw_below_drewN | apply below_drew1 | refine below_set ?_ GE537.out) | exact HB.out)⟩⟩
         ·rw [if_neg c15] at H
          have c15b0 : decide (0 ≤ t544) = false := decide_eq_false c15
          clear c15
          by_cases c19 : x6_1.length < 5864062014805
          ·rw [if_pos c19] at H
           have LMc19 := Aside0.mk c19
           clear c19
           obtain ⟨y546, hy546⟩ : ∃ y_ : List (List Int), y_ = (x6_1 ++ [rd_L1 t538 x18_1]) := ⟨_, rfl⟩
           replace H : (comma_Records.l0 k1 t541 y546 t538 (t538.length : Int) (wrap64 (x18_1 + 1)) l0_0 a0_1 l0_2) = some (r1, r2) := by first | (rw [hy546]; exact H) | exact H
           have Ny546 := Aside0.mk hy546
           clear hy546
           have H' := Aside0.mk H
           clear H
           have p542 : 0 ≤ (x18_1 : Int) := of_decide_eq_true (by with_reducible assumption)
           have q542 : x18_1 < (t538.length : Int) := of_decide_eq_true (by with_reducible assumption)
           obtain ⟨ad542, A542_0, c542_0, e542, hx542_0, hl542_0, hi542_0⟩ := at_L1 (Kd.N_reads' HO_16.out).2.2 x18_1 p542 q542
           cases e542
           obtain ⟨ce542, hce542, hMe542, hcc542⟩ := Kd.N_get HO_16.out [] x18_1 p542 (by first | exact q542 | exact of_decide_eq_true (by with_reducible assumption) | (have e_ := (Kd.N_reads' HO_16.out).1; omega))
           obtain ⟨ua542_0, uc542_0, rfl, ul542_0, ge542_0⟩ := Kd.FK_slice_open hMe542
           have hv542_0 := hcc542 0 _ rfl
           rw [Nat.add_zero, show ((Kd.slice 3 (Kd.int .i64))).sz = 1 from rfl, Nat.mul_one] at hv542_0
           replace hv542_0 := Option.some.inj (hv542_0.symm.trans hx542_0)
           injection hv542_0 with hva_ hvn_ hvc_
           rw [hva_] at ge542_0
           rw [hvc_] at ul542_0
           have HL542_0 := Aside0.mk (show Kd.V (Kd.int .i64) 3 _ w.heap.size _ _ (rd_L1 t538 x18_1) from Kd.V_mk ul542_0 ge542_0)
           clear hva_ hvn_ hvc_ ge542_0 ul542_0
           clear hcc542 hce542
           have HR542_0 := Aside0.mk hi542_0
           have HC542_0 := Aside0.mk hl542_0
           clear hi542_0 hl542_0
           replace p542 := eq_true p542
           replace q542 := eq_true q542
           obtain ⟨Ao20, co20, eo20⟩ := Kd.N_slice HO_6.out
           subst eo20
           try go_wp2
           have n0_ := Aside0.mk (Kd.N_drew HO_6.out)
           have n1_ := Aside0.mk (Kd.N_drew HO_16.out)
           have n2_ := Aside0.mk (Kd.V_drew HL542_0.out)
           have n3_ := Aside0.mk (blk_drew BK537.out)
           have n4_ := Aside0.mk (Kd.C_drew HR542_0.out)
           have n5_ := Aside0.mk (below_drew1 HB.out)
           clear HO_6
           clear HO_16
           clear HL542_0
           clear BK537
           clear HR542_0
           clear HB
           have HO_6 := n0_
           have HO_16 := n1_
           have HL542_0 := n2_
           have BK537 := n3_
           have HR542_0 := n4_
           have HB := n5_
           clear n0_ n1_ n2_ n3_ n4_ n5_
           have p543 : 0 ≤ ((ji11) : Int) := of_decide_eq_true (by with_reducible assumption)
           have q543 : (ji11) < (x6_1.length : Int) := of_decide_eq_true (by with_reducible assumption)
           obtain ⟨ad543, A543_0, c543_0, e543, hx543_0, hl543_0, hi543_0⟩ := at_L1 (Kd.N_reads' HO_6.out).2.2 (ji11) p543 q543
           cases e543
           obtain ⟨ce543, hce543, hMe543, hcc543⟩ := Kd.N_get HO_6.out [] (ji11) p543 (by first | exact q543 | exact of_decide_eq_true (by with_reducible assumption) | (have e_ := (Kd.N_reads' HO_6.out).1; omega))
           obtain ⟨ua543_0, uc543_0, rfl, ul543_0, ge543_0⟩ := Kd.FK_slice_open hMe543
           have hv543_0 := hcc543 0 _ rfl
           rw [Nat.add_zero, show ((Kd.slice 3 (Kd.int .i64))).sz = 1 from rfl, Nat.mul_one] at hv543_0
           replace hv543_0 := Option.some.inj (hv543_0.symm.trans hx543_0)
           injection hv543_0 with hva_ hvn_ hvc_
           rw [hva_] at ge543_0
           rw [hvc_] at ul543_0
           have HL543_0 := Aside0.mk (show Kd.V (Kd.int .i64) 3 _ w.heap.size _ _ (rd_L1 x6_1 (ji11)) from Kd.V_mk ul543_0 ge543_0)
           clear hva_ hvn_ hvc_ ge543_0 ul543_0
           clear hcc543 hce543
           have HR543_0 := Aside0.mk hi543_0
           have HC543_0 := Aside0.mk hl543_0
           clear hi543_0 hl543_0
           replace p543 := eq_true p543
           replace q543 := eq_true q543
           refine start_ (n := 15) (S := fun w' => w'.cell? ⟨gb537, 0, none⟩ = some (.slice A0_0 l0_0.length c0_0) ∧ w'.cell? ⟨gb537, 1, none⟩ = some (.int .i64 a0_1) ∧ w'.cell? ⟨gb537, 2, none⟩ = some (.slice A0_2 l0_2.length c0_2) ∧ w'.cell? (ad543.add ((ji11)).toNat) = some (.slice A543_0 (rd_L1 x6_1 (ji11)).length c543_0)) (ds := []) #[false, false, false, false, false, false, false, false, false, false, false, false, false, false, false] (by kernel_rfl) rfl rfl ⟨(blk_cell BK537.out 0).trans rfl, (blk_cell BK537.out 1).trans rfl, (blk_cell BK537.out 2).trans rfl, hx543_0⟩ (fun hHeld => ?_); refine with_tabW comma_Records.tab7 comma_Records.bits7 (fun HT_ HW_ => ?_)
           generalize wr.drew = w21 at HO_6 HO_16 HL542_0 BK537 HR542_0 HB HL543_0 HR543_0 hx543_0 hHeld ⊢
           refine pure_ (i := 0) (N := some 26) (v := ?_) (a' := ?_) #[true, false, false, false, false, false, false, false, false, false, false, false, false, false, false] rfl rfl (any_of HT_.out (by kernel_rfl)) (fun _ _ _ h => h) (Or.inl ⟨by rfl, ?_⟩) ?_ ?_
           rotate_left
           ·intro w'
            go_simp
            with_reducible rfl
           rotate_left
           ·simp only [Act.put, List.setIfInBounds_toArray, List.set_cons_zero, List.set_cons_succ, i64_w, i32_w]
            rfl
           refine pure_ (i := 2) (N := some 28) (v := ?_) (a' := ?_) #[true, false, true, false, false, false, false, false, false, false, false, false, false, false, false] rfl rfl (any_of HT_.out (by kernel_rfl)) (fun _ _ _ h => h) (Or.inl ⟨by rfl, ?_⟩) ?_ ?_
           rotate_left
           ·intro w'
            go_simp
            with_reducible rfl
           rotate_left
           ·simp only [Act.put, List.setIfInBounds_toArray, List.set_cons_zero, List.set_cons_succ, i64_w, i32_w]
            rfl
           refine pure_ (i := 3) (N := some 29) (v := ?_) (a' := ?_) #[true, false, true, true, false, false, false, false, false, false, false, false, false, false, false] rfl rfl (any_of HT_.out (by kernel_rfl)) (fun _ _ _ h => h) (Or.inl ⟨by rfl, ?_⟩) ?_ ?_
           rotate_left
           ·intro w'
            go_simp
            with_reducible rfl
           rotate_left
           ·simp only [Act.put, List.setIfInBounds_toArray, List.set_cons_zero, List.set_cons_succ, i64_w, i32_w]
            rfl
           refine pure_ (i := 4) (N := some 30) (v := ?_) (a' := ?_) #[true, false, true, true, true, false, false, false, false, false, false, false, false, false, false] rfl rfl (any_of HT_.out (by kernel_rfl)) (fun _ _ _ h => h) (Or.inl ⟨by rfl, ?_⟩) ?_ ?_
           rotate_left
           ·intro w'
            go_simp
            with_reducible rfl
           rotate_left
           ·simp only [Act.put, List.setIfInBounds_toArray, List.set_cons_zero, List.set_cons_succ, i64_w, i32_w]
            rfl
           refine pure_ (i := 5) (N := some 31) (v := ?_) (a' := ?_) #[true, false, true, true, true, true, false, false, false, false, false, false, false, false, false] rfl rfl (any_of HT_.out (by kernel_rfl)) (fun _ _ _ h => h) (Or.inl ⟨by rfl, ?_⟩) ?_ ?_
           rotate_left
           ·intro w'
            go_simp
            with_reducible rfl
           rotate_left
           ·simp only [Act.put, List.setIfInBounds_toArray, List.set_cons_zero, List.set_cons_succ, i64_w, i32_w]
            rfl
           refine pure_ (i := 6) (N := some 32) (v := ?_) (a' := ?_) #[true, false, true, true, true, true, true, false, false, false, false, false, false, false, false] rfl rfl (any_of HT_.out (by kernel_rfl)) (fun _ _ _ h => h) (Or.inl ⟨by rfl, ?_⟩) ?_ ?_
           rotate_left
           ·intro w'
            go_simp
            with_reducible rfl
           rotate_left
           ·simp only [Act.put, List.setIfInBounds_toArray, List.set_cons_zero, List.set_cons_succ, i64_w, i32_w]
            rfl
           refine pure_ (i := 7) (N := some 33) (v := ?_) (a' := ?_) #[true, false, true, true, true, true, true, true, false, false, false, false, false, false, false] rfl rfl (any_of HT_.out (by kernel_rfl)) (fun _ _ _ h => h) (Or.inl ⟨by rfl, ?_⟩) ?_ ?_
           rotate_left
           ·intro w'
            go_simp
            with_reducible rfl
           rotate_left
           ·simp only [Act.put, List.setIfInBounds_toArray, List.set_cons_zero, List.set_cons_succ, i64_w, i32_w]
            rfl
           refine take_ (i := 1) (N := some 27) (v := ?_) (a' := ?_) #[true, true, true, true, true, true, true, true, false, false, false, false, false, false, false] rfl rfl (take_ofW HT_.out HW_.out (by kernel_rfl)) (fun _ _ _ h => h) (Or.inl ⟨by rfl, ?_⟩) hHeld ?_ ?_
           rotate_left
           ·rintro w' ⟨s0, s1, s2, s3⟩
            go_simp
            with_reducible rfl
           rotate_left
           ·simp only [Act.put, List.setIfInBounds_toArray, List.set_cons_zero, List.set_cons_succ, i64_w, i32_w]
            rfl
           refine take_ (i := 8) (N := some 34) (v := ?_) (a' := ?_) #[true, true, true, true, true, true, true, true, true, false, false, false, false, false, false] rfl rfl (take_ofW HT_.out HW_.out (by kernel_rfl)) (fun _ _ _ h => h) (Or.inl ⟨by rfl, ?_⟩) hHeld ?_ ?_
           rotate_left
           ·rintro w' ⟨s0, s1, s2, s3⟩
            go_simp
            with_reducible rfl
           rotate_left
           ·simp only [Act.put, List.setIfInBounds_toArray, List.set_cons_zero, List.set_cons_succ, i64_w, i32_w]
            rfl
           refine one_ (i := 9) (N := some 35) #[true, true, true, true, true, true, true, true, true, true, false, false, false, false, false] rfl rfl (one_of HT_.out (by kernel_rfl)) (by decide) (fun K hK => ?_)
           refine goes_ Tryz.func59 (by kernel_rfl) rfl #[.slice A0_0 l0_0.length c0_0, .slice A542_0 (rd_L1 t538 x18_1).length c542_0, .slice A543_0 (rd_L1 x6_1 (ji11)).length c543_0] (by rfl) rfl rfl (by (try simp only [List.map_toArray, List.map_cons, List.map_nil]); first | done | (simp only [hji11]; rfl) | rfl | (simp only [List.length_drop, List.length_take]; rfl)) ?_
           with_reducible refine (monzo_Compare.calls k1 _ _ l0_0 (fun k_ => (((w.heap.size ≤ k_) ∧ (some k_ ≠ (.slice (some ad543) x6_1.length co20 : Value).ownBlock ∧ k_ ≠ gb537)) ∧ some k_ ≠ (.slice (some ad542) t538.length co6 : Value).ownBlock)) _ _ (rd_L1 t538 x18_1) (fun k_ => (((w.heap.size ≤ k_) ∧ (some k_ ≠ (.slice (some ad542) t538.length co6 : Value).ownBlock ∧ k_ ≠ gb537)) ∧ some k_ ≠ (.slice (some ad543) x6_1.length co20 : Value).ownBlock)) _ _ (rd_L1 x6_1 (ji11)) t544 t545 _ ?side1 ?side2 ?side3 ?side4 ?side5 A14.out).mono ?_
           (case side1 => exact Glob.below HG.out (by repeat (first | (with_reducible first | exact HB.out | apply below_alloc | apply pw_below_drewN | apply below_drew1 | refine below_set ?_ GE537.out) | exact HB.out)))
           (case side2 => repeat (first | exact (Kd.C_below HR0_0.out HB.out) | (with_reducible refine Kd.C_alloc ?_ _) | (with_reducible refine Kd.C_drewN ?_ _) | (with_reducible refine Kd.C_drew ?_)))
           (case side3 => exact HC0_0.out)
           (case side4 => exact HL542_0.out)
           (case side5 => exact HL543_0.out)
           rintro e w22 ⟨rfl, hb⟩
           have HS3_ := (hb.cell (World.block_lt_of_cell? _ _ (hHeld.2.2.2))).trans (hHeld.2.2.2)
           refine ⟨_, rfl, ?_⟩
           have n0_ := Aside0.mk (Kd.N_below (by (with_reducible repeat (first | apply Kd.N_alloc | apply Kd.N_drewN | apply Kd.N_drew)); exact HO_6.out) hb)
           have n1_ := Aside0.mk (Kd.N_below (by (with_reducible repeat (first | apply Kd.N_alloc | apply Kd.N_drewN | apply Kd.N_drew)); exact HO_16.out) hb)
           have n2_ := Aside0.mk (Kd.V_below (by (with_reducible repeat (first | apply Kd.V_alloc | apply Kd.V_drewN | apply Kd.V_drew)); exact HL542_0.out) hb)
           have n3_ := Aside0.mk (Kd.V_below (by (with_reducible repeat (first | apply Kd.V_alloc | apply Kd.V_drewN | apply Kd.V_drew)); exact HL543_0.out) hb)
           have n4_ := Aside0.mk (blk_below (g := gb537) (o := .cells #[.slice A0_0 l0_0.length c0_0, .int .i64 a0_1, .slice A0_2 l0_2.length c0_2] 32 (0, 0)) (by (with_reducible repeat (first | refine blk_drewN ?_ _ | refine blk_drew ?_ | refine blk_alloc ?_ _)); exact BK537.out) hb)
           have n5_ := Aside0.mk (Kd.C_below (by repeat (first | (with_reducible exact HR542_0.out) | (with_reducible refine Kd.C_alloc ?_ _) | (with_reducible refine Kd.C_drewN ?_ _) | (with_reducible refine Kd.C_drew ?_) | exact HR542_0.out)) hb)
           have n6_ := Aside0.mk (Kd.C_below (by repeat (first | (with_reducible exact HR543_0.out) | (with_reducible refine Kd.C_alloc ?_ _) | (with_reducible refine Kd.C_drewN ?_ _) | (with_reducible refine Kd.C_drew ?_) | exact HR543_0.out)) hb)
           have n7_ := Aside0.mk (below_step (by repeat (first | (with_reducible first | exact HB.out | apply below_alloc | apply pw_below_drewN | apply below_drew1 | refine below_set ?_ GE537.out) | exact HB.out)) hb)
           clear HO_6
           clear HO_16
           clear HL542_0
           clear HL543_0
           clear BK537
           clear HR542_0
           clear HR543_0
           clear HB
           have HO_6 := n0_
           have HO_16 := n1_
           have HL542_0 := n2_
           have HL543_0 := n3_
           have BK537 := n4_
           have HR542_0 := n5_
           have HR543_0 := n6_
           have HB := n7_
           clear n0_ n1_ n2_ n3_ n4_ n5_ n6_ n7_
           (try clear hb)
           (try clear hb2)
           (try clear hk)
           (try clear hi)
           refine hK.out _ _ ⟨(blk_cell BK537.out 0).trans rfl, (blk_cell BK537.out 1).trans rfl, (blk_cell BK537.out 2).trans rfl, HS3_⟩ (fun hHeld => ?_)
           clear hK K
           refine norm_ (a' := ?_) ?_ ?_
           rotate_left
           ·show Act.put _ (some 35) _ = _
            simp only [Act.put, List.setIfInBounds_toArray, List.set_cons_zero, List.set_cons_succ, i64_w, i32_w]
            rfl
           refine pure_ (i := 10) (N := some 25) (v := ?_) (a' := ?_) #[true, true, true, true, true, true, true, true, true, true, true, false, false, false, false] rfl rfl (any_of HT_.out (by kernel_rfl)) (fun _ _ _ h => h) (Or.inl ⟨by rfl, ?_⟩) ?_ ?_
           rotate_left
           ·intro w'
            go_simp
            with_reducible rfl
           rotate_left
           ·simp only [Act.put, List.setIfInBounds_toArray, List.set_cons_zero, List.set_cons_succ, i64_w, i32_w]
            rfl
           refine pure_ (i := 11) (N := some 36) (v := ?_) (a' := ?_) #[true, true, true, true, true, true, true, true, true, true, true, true, false, false, false] rfl rfl (any_of HT_.out (by kernel_rfl)) (fun _ _ _ h => h) (Or.inl ⟨by rfl, ?_⟩) ?_ ?_
           rotate_left
           ·intro w'
            go_simp
            with_reducible rfl
           rotate_left
           ·simp only [Act.put, List.setIfInBounds_toArray, List.set_cons_zero, List.set_cons_succ, i64_w, i32_w]
            rfl
           refine pure_ (i := 12) (N := some 37) (v := ?_) (a' := ?_) #[true, true, true, true, true, true, true, true, true, true, true, true, true, false, false] rfl rfl (any_of HT_.out (by kernel_rfl)) (fun _ _ _ h => h) (Or.inl ⟨by rfl, ?_⟩) ?_ ?_
           rotate_left
           ·intro w'
            go_simp
            with_reducible rfl
           rotate_left
           ·simp only [Act.put, List.setIfInBounds_toArray, List.set_cons_zero, List.set_cons_succ, i64_w, i32_w]
            rfl
           refine pure_ (i := 13) (N := some 9) (v := ?_) (a' := ?_) #[true, true, true, true, true, true, true, true, true, true, true, true, true, true, false] rfl rfl (any_of HT_.out (by kernel_rfl)) (fun _ _ _ h => h) (Or.inl ⟨by rfl, ?_⟩) ?_ ?_
           rotate_left
           ·intro w'
            go_simp
            with_reducible rfl
           rotate_left
           ·simp only [Act.put, List.setIfInBounds_toArray, List.set_cons_zero, List.set_cons_succ, i64_w, i32_w]
            rfl
           refine pure_ (i := 14) (N := some 10) (v := ?_) (a' := ?_) #[true, true, true, true, true, true, true, true, true, true, true, true, true, true, true] rfl rfl (any_of HT_.out (by kernel_rfl)) (fun _ _ _ h => h) (Or.inl ⟨by rfl, ?_⟩) ?_ ?_
           rotate_left
           ·intro w'
            go_simp
            with_reducible rfl
           rotate_left
           ·simp only [Act.put, List.setIfInBounds_toArray, List.set_cons_zero, List.set_cons_succ, i64_w, i32_w]
            rfl
           refine done_ (done_of HT_.out (by kernel_rfl)) ?_
           try go_wp2_with (first | ((with_reducible refine gate_builtin (b := .append) (xs := #[.tmp 40, .tmp 42]) rfl ?_); at_builtin; refine Kd.N_append (Kd.slice 3 (Kd.int .i64)) (w0 := w) w.heap.size rfl (.tmp 40) (.tmp 42) 36 30 (.slice none 0 0) 24 rfl Tryz.underlying36 info30 rfl (by decide) (by omega) (.slice (some ad543) x6_1.length co20) x6_1 (rd_L1 t538 x18_1) [.slice A542_0 (rd_L1 t538 x18_1).length c542_0] (fun k_ => (w.heap.size ≤ k_) ∧ some k_ ≠ (.slice (some ad542) t538.length co6 : Value).ownBlock ∧ k_ ≠ gb537) (fun k_ => ((fun k_ => (w.heap.size ≤ k_) ∧ some k_ ≠ (.slice (some ad542) t538.length co6 : Value).ownBlock ∧ k_ ≠ gb537)) k_ ∧ some k_ ≠ (.slice (some ad543) x6_1.length co20 : Value).ownBlock) rfl rfl ?aP (fun _ hk => hk) ?aF ?aO ?aB ?aS ?aL ?_; (case aP => exact (Kd.FK_slice_mk (Kd.V_reads' (Kd.V_mono (ok' := (fun k_ => ((fun k_ => (w.heap.size ≤ k_) ∧ some k_ ≠ (.slice (some ad542) t538.length co6 : Value).ownBlock ∧ k_ ≠ gb537)) k_ ∧ some k_ ≠ (.slice (some ad543) x6_1.length co20 : Value).ownBlock)) (HL542_0.out) (fun k_ hk => ⟨⟨hk.1.1, ⟨hk.2, hk.1.2.2⟩⟩, hk.1.2.1⟩))).2.1 (Kd.V_F (Kd.V_mono (ok' := (fun k_ => ((fun k_ => (w.heap.size ≤ k_) ∧ some k_ ≠ (.slice (some ad542) t538.length co6 : Value).ownBlock ∧ k_ ≠ gb537)) k_ ∧ some k_ ≠ (.slice (some ad543) x6_1.length co20 : Value).ownBlock)) (HL542_0.out) (fun k_ hk => ⟨⟨hk.1.1, ⟨hk.2, hk.1.2.2⟩⟩, hk.1.2.1⟩))))); (case aB => exact (by repeat (first | (with_reducible first | exact HB.out | apply below_alloc | apply pw_below_drewN | apply below_drew1 | refine below_set ?_ GE537.out) | exact HB.out))); (case aF => exact (fun k_ hk => ⟨(Nat.le_trans (below_size (by repeat (first | (with_reducible first | exact HB.out | apply below_alloc | apply pw_below_drewN | apply below_drew1 | refine below_set ?_ GE537.out) | exact HB.out))) hk), Kd.fresh' (Kd.N_lt (by (with_reducible repeat (first | apply Kd.N_alloc | apply Kd.N_drewN | apply Kd.N_drew)); exact HO_16.out)) k_ hk, Kd.freshB (g := gb537) (o := .cells #[.slice A0_0 l0_0.length c0_0, .int .i64 a0_1, .slice A0_2 l0_2.length c0_2] 32 (0, 0)) (by (with_reducible repeat (first | refine blk_drewN ?_ _ | refine blk_drew ?_ | refine blk_alloc ?_ _)); exact BK537.out) k_ hk⟩)); (case aO => exact (by (with_reducible repeat (first | apply Kd.N_alloc | apply Kd.N_drewN | apply Kd.N_drew)); exact HO_6.out)); (case aS => exact (below_size (by repeat (first | (with_reducible first | exact HB.out | apply below_alloc | apply pw_below_drewN | apply below_drew1 | refine below_set ?_ GE537.out) | exact HB.out)))); (case aL => have := LMc19.out; omega); intro v547 w23 ho hb hg hat; rw [← Ny546.out] at ho; have n0_ := Aside0.mk (Kd.N_afterv (ok := (fun k_ => (w.heap.size ≤ k_) ∧ k_ ≠ gb537)) (by (with_reducible repeat (first | apply Kd.N_alloc | apply Kd.N_drewN | apply Kd.N_drew)); exact Kd.N_mono HO_16.out (fun _ hk => ⟨⟨hk.1, hk.2.2⟩, hk.2.1⟩)) hg hat); have n1_ := Aside0.mk (blk_grown (g := gb537) (o := .cells #[.slice A0_0 l0_0.length c0_0, .int .i64 a0_1, .slice A0_2 l0_2.length c0_2] 32 (0, 0)) (by (with_reducible repeat (first | refine blk_drewN ?_ _ | refine blk_drew ?_ | refine blk_alloc ?_ _)); exact BK537.out) hg (Kd.N_ne HO_6.out BK537.out (by decide))); have n2_ := Aside0.mk (Kd.V_afterv (ok := (fun k_ => (w.heap.size ≤ k_) ∧ some k_ ≠ (.slice (some ad542) t538.length co6 : Value).ownBlock ∧ k_ ≠ gb537)) (by (with_reducible repeat (first | apply Kd.V_alloc | apply Kd.V_drewN | apply Kd.V_drew)); exact Kd.V_mono HL542_0.out (fun _ hk => ⟨⟨hk.1.1, ⟨hk.2, hk.1.2.2⟩⟩, hk.1.2.1⟩)) hg hat); have n3_ := Aside0.mk (Kd.V_afterv (ok := (fun k_ => (w.heap.size ≤ k_) ∧ some k_ ≠ (.slice (some ad542) t538.length co6 : Value).ownBlock ∧ k_ ≠ gb537)) (by (with_reducible repeat (first | apply Kd.V_alloc | apply Kd.V_drewN | apply Kd.V_drew)); exact HL543_0.out) hg hat); have n4_ := Aside0.mk (hb); have n5_ := Aside0.mk (ho); clear HO_16; clear BK537; clear HL542_0; clear HL543_0; clear HB; clear HO_6; have HO_16 := n0_; have BK537 := n1_; have HL542_0 := n2_; have HL543_0 := n3_; have HB := n4_; have HO548 := n5_; clear n0_ n1_ n2_ n3_ n4_ n5_; clear ho hb hg hat))
           go_roundg k1
           case measure => have := HK1.out; omega
           case rel => exact ⟨(y546), (wrap64 (x18_1 + 1)), (by first | rfl | (simp; done) | (simp [*]; done)), H', ⟨by have := HK1.out; omega⟩, ⟨by (with_reducible repeat (first | apply Kd.N_alloc | apply Kd.N_drewN | apply Kd.N_drew)); exact HO548.out⟩, ⟨by (with_reducible repeat (first | apply Kd.N_alloc | apply Kd.N_drewN | apply Kd.N_drew)); exact Kd.N_mono HO_16.out (fun _ hk => ⟨hk.1.1, ⟨hk.2, hk.1.2⟩⟩)⟩, ⟨by (with_reducible repeat (first | refine blk_drewN ?_ _ | refine blk_drew ?_ | refine blk_alloc ?_ _)); exact BK537.out⟩, ⟨by repeat (first | (with_reducible first | exact HB.out | apply below_alloc | apply pw_below_drewN | apply below_drew1 | refine below_set ?_ GE537.out) | exact HB.out)⟩⟩
          ·rw [if_neg c19] at H
           exact absurd H (by simp)
        ·rw [if_neg c13] at H
         exact absurd H (by simp)
       ·rw [if_neg c12] at H
        exact absurd H (by simp)
      ·rw [if_neg c10] at H
       have c10b0 : decide (0 < (x6_1.length : Int)) = false := decide_eq_false c10
       have c10b1 : decide (0 < x6_1.length) = false := decide_eq_false (by omega)
       clear c10
       by_cases c24 : x6_1.length < 5864062014805
       ·rw [if_pos c24] at H
        have LMc24 := Aside0.mk c24
        clear c24
        obtain ⟨y549, hy549⟩ : ∃ y_ : List (List Int), y_ = (x6_1 ++ [rd_L1 t538 x18_1]) := ⟨_, rfl⟩
        replace H : (comma_Records.l0 k1 t541 y549 t538 (t538.length : Int) (wrap64 (x18_1 + 1)) l0_0 a0_1 l0_2) = some (r1, r2) := by first | (rw [hy549]; exact H) | exact H
        have Ny549 := Aside0.mk hy549
        clear hy549
        have H' := Aside0.mk H
        clear H
        have p542 : 0 ≤ (x18_1 : Int) := of_decide_eq_true (by with_reducible assumption)
        have q542 : x18_1 < (t538.length : Int) := of_decide_eq_true (by with_reducible assumption)
        obtain ⟨ad542, A542_0, c542_0, e542, hx542_0, hl542_0, hi542_0⟩ := at_L1 (Kd.N_reads' HO_16.out).2.2 x18_1 p542 q542
        cases e542
        obtain ⟨ce542, hce542, hMe542, hcc542⟩ := Kd.N_get HO_16.out [] x18_1 p542 (by first | exact q542 | exact of_decide_eq_true (by with_reducible assumption) | (have e_ := (Kd.N_reads' HO_16.out).1; omega))
        obtain ⟨ua542_0, uc542_0, rfl, ul542_0, ge542_0⟩ := Kd.FK_slice_open hMe542
        have hv542_0 := hcc542 0 _ rfl
        rw [Nat.add_zero, show ((Kd.slice 3 (Kd.int .i64))).sz = 1 from rfl, Nat.mul_one] at hv542_0
        replace hv542_0 := Option.some.inj (hv542_0.symm.trans hx542_0)
        injection hv542_0 with hva_ hvn_ hvc_
        rw [hva_] at ge542_0
        rw [hvc_] at ul542_0
        have HL542_0 := Aside0.mk (show Kd.V (Kd.int .i64) 3 _ w.heap.size _ _ (rd_L1 t538 x18_1) from Kd.V_mk ul542_0 ge542_0)
        clear hva_ hvn_ hvc_ ge542_0 ul542_0
        clear hcc542 hce542
        have HR542_0 := Aside0.mk hi542_0
        have HC542_0 := Aside0.mk hl542_0
        clear hi542_0 hl542_0
        replace p542 := eq_true p542
        replace q542 := eq_true q542
        obtain ⟨Ao25, co25, eo25⟩ := Kd.N_slice HO_6.out
        subst eo25
        go_wp2_with (first | ((with_reducible refine gate_builtin (b := .append) (xs := #[.tmp 40, .tmp 42]) rfl ?_); at_builtin; refine Kd.N_append (Kd.slice 3 (Kd.int .i64)) (w0 := w) w.heap.size rfl (.tmp 40) (.tmp 42) 36 30 (.slice none 0 0) 24 rfl Tryz.underlying36 info30 rfl (by decide) (by omega) (.slice Ao25 x6_1.length co25) x6_1 (rd_L1 t538 x18_1) [.slice A542_0 (rd_L1 t538 x18_1).length c542_0] (fun k_ => (w.heap.size ≤ k_) ∧ some k_ ≠ (.slice (some ad542) t538.length co6 : Value).ownBlock ∧ k_ ≠ gb537) (fun k_ => ((fun k_ => (w.heap.size ≤ k_) ∧ some k_ ≠ (.slice (some ad542) t538.length co6 : Value).ownBlock ∧ k_ ≠ gb537)) k_ ∧ some k_ ≠ (.slice Ao25 x6_1.length co25 : Value).ownBlock) rfl rfl ?aP (fun _ hk => hk) ?aF ?aO ?aB ?aS ?aL ?_; (case aP => exact (Kd.FK_slice_mk (Kd.V_reads' (Kd.V_mono (ok' := (fun k_ => ((fun k_ => (w.heap.size ≤ k_) ∧ some k_ ≠ (.slice (some ad542) t538.length co6 : Value).ownBlock ∧ k_ ≠ gb537)) k_ ∧ some k_ ≠ (.slice Ao25 x6_1.length co25 : Value).ownBlock)) (HL542_0.out) (fun k_ hk => ⟨⟨hk.1.1, ⟨hk.2, hk.1.2.2⟩⟩, hk.1.2.1⟩))).2.1 (Kd.V_F (Kd.V_mono (ok' := (fun k_ => ((fun k_ => (w.heap.size ≤ k_) ∧ some k_ ≠ (.slice (some ad542) t538.length co6 : Value).ownBlock ∧ k_ ≠ gb537)) k_ ∧ some k_ ≠ (.slice Ao25 x6_1.length co25 : Value).ownBlock)) (HL542_0.out) (fun k_ hk => ⟨⟨hk.1.1, ⟨hk.2, hk.1.2.2⟩⟩, hk.1.2.1⟩))))); (case aB => exact (by repeat (first | (with_reducible first | exact HB.out | apply below_alloc | apply pw_below_drewN | apply below_drew1 | refine below_set ?_ GE537.out) | exact HB.out))); (case aF => exact (fun k_ hk => ⟨(Nat.le_trans (below_size (by repeat (first | (with_reducible first | exact HB.out | apply below_alloc | apply pw_below_drewN | apply below_drew1 | refine below_set ?_ GE537.out) | exact HB.out))) hk), Kd.fresh' (Kd.N_lt (by (with_reducible repeat (first | apply Kd.N_alloc | apply Kd.N_drewN | apply Kd.N_drew)); exact HO_16.out)) k_ hk, Kd.freshB (g := gb537) (o := .cells #[.slice A0_0 l0_0.length c0_0, .int .i64 a0_1, .slice A0_2 l0_2.length c0_2] 32 (0, 0)) (by (with_reducible repeat (first | refine blk_drewN ?_ _ | refine blk_drew ?_ | refine blk_alloc ?_ _)); exact BK537.out) k_ hk⟩)); (case aO => exact (by (with_reducible repeat (first | apply Kd.N_alloc | apply Kd.N_drewN | apply Kd.N_drew)); exact HO_6.out)); (case aS => exact (below_size (by repeat (first | (with_reducible first | exact HB.out | apply below_alloc | apply pw_below_drewN | apply below_drew1 | refine below_set ?_ GE537.out) | exact HB.out)))); (case aL => have := LMc24.out; omega); intro v550 w26 ho hb hg hat; rw [← Ny549.out] at ho; have n0_ := Aside0.mk (Kd.N_afterv (ok := (fun k_ => (w.heap.size ≤ k_) ∧ k_ ≠ gb537)) (by (with_reducible repeat (first | apply Kd.N_alloc | apply Kd.N_drewN | apply Kd.N_drew)); exact Kd.N_mono HO_16.out (fun _ hk => ⟨⟨hk.1, hk.2.2⟩, hk.2.1⟩)) hg hat); have n1_ := Aside0.mk (blk_grown (g := gb537) (o := .cells #[.slice A0_0 l0_0.length c0_0, .int .i64 a0_1, .slice A0_2 l0_2.length c0_2] 32 (0, 0)) (by (with_reducible repeat (first | refine blk_drewN ?_ _ | refine blk_drew ?_ | refine blk_alloc ?_ _)); exact BK537.out) hg (Kd.N_ne HO_6.out BK537.out (by decide))); have n2_ := Aside0.mk (Kd.V_afterv (ok := (fun k_ => (w.heap.size ≤ k_) ∧ some k_ ≠ (.slice (some ad542) t538.length co6 : Value).ownBlock ∧ k_ ≠ gb537)) (by (with_reducible repeat (first | apply Kd.V_alloc | apply Kd.V_drewN | apply Kd.V_drew)); exact Kd.V_mono HL542_0.out (fun _ hk => ⟨⟨hk.1.1, ⟨hk.2, hk.1.2.2⟩⟩, hk.1.2.1⟩)) hg hat); have n3_ := Aside0.mk (hb); have n4_ := Aside0.mk (ho); clear HO_16; clear BK537; clear HL542_0; clear HB; clear HO_6; have HO_16 := n0_; have BK537 := n1_; have HL542_0 := n2_; have HB := n3_; have HO551 := n4_; clear n0_ n1_ n2_ n3_ n4_; clear ho hb hg hat))
        go_roundg k1
        case measure => have := HK1.out; omega
        case rel => exact ⟨(y549), (wrap64 (x18_1 + 1)), (by first | rfl | (simp; done) | (simp [*]; done)), H', ⟨by have := HK1.out; omega⟩, ⟨by (with_reducible repeat (first | apply Kd.N_alloc | apply Kd.N_drewN | apply Kd.N_drew)); exact HO551.out⟩, ⟨by (with_reducible repeat (first | apply Kd.N_alloc | apply Kd.N_drewN | apply Kd.N_drew)); exact Kd.N_mono HO_16.out (fun _ hk => ⟨hk.1.1, ⟨hk.2, hk.1.2⟩⟩)⟩, ⟨by (with_reducible repeat (first | refine blk_drewN ?_ _ | refine blk_drew ?_ | refine blk_alloc ?_ _)); exact BK537.out⟩, ⟨by repeat (first | (with_reducible first | exact HB.out | apply below_alloc | apply pw_below_drewN | apply below_drew1 | refine below_set ?_ GE537.out) | exact HB.out)⟩⟩
       ·rw [if_neg c24] at H
        exact absurd H (by simp)
     ·rw [if_neg c9] at H
      exact absurd H (by simp)
    ·rw [if_neg c8] at H
     exact absurd H (by simp)
   ·rw [if_neg c7] at H
    have c7b0 : decide (x18_1 < (t538.length : Int)) = false := decide_eq_false c7
    clear c7
    simp only [Option.some.injEq, Prod.mk.injEq] at H
    obtain ⟨rfl, rfl⟩ := H
    go_wp2
    go_ret2
    exact ⟨_, by first | rfl | (simp [errW_none, errW_some] <;> rfl) | (simp [*, errW_none, errW_some] <;> rfl), by (with_reducible repeat (first | apply Kd.N_alloc | apply Kd.N_drewN | apply Kd.N_drew)); exact Kd.N_mono HO_6.out (fun _ hk => hk.1), by repeat (first | (with_reducible first | exact HB.out | apply below_alloc | apply pw_below_drewN | apply below_drew1 | refine below_set ?_ GE537.out) | exact HB.out)⟩
def schismalaw16_check.j0 : Nat → Bool → List Int → Int → List Int → Option (Int)
 | 0, _, _, _, _ => none
 | k + 1, x21, x691000, x691001, x691002 => if x21 = true then (some 3) else ((monzo_Sign.f k x691000 x691002).bind fun bt692 => (if bt692.1 ≤ 0 then (some 3) else (some 0)))
def schismalaw16_check.f (k : Nat) (l0_0 : List Int) (a0_1 : Int) (l0_2 : List Int) : Option (Int) := (monzo_Check.f k l0_0 l0_2).bind fun t691 => (if t691 = 0 then (if a0_1 < 1 then (schismalaw16_check.j0 k true l0_0 a0_1 l0_2) else (schismalaw16_check.j0 k (decide (a0_1 > 5000)) l0_0 a0_1 l0_2)) else (some t691))
theorem schismalaw16_check.mono_l : ∀ k, (∀ y0 y1 y2 y3, LeO (schismalaw16_check.j0 k y0 y1 y2 y3) (schismalaw16_check.j0 (k + 1) y0 y1 y2 y3))
 | 0 => fun _ _ _ _ r h => by simp [schismalaw16_check.j0] at h
 | k + 1 => by
  have ih0 := schismalaw16_check.mono_l k
  ·intro y0 y1 y2 y3
   unfold schismalaw16_check.j0
   repeat' first
   | (with_reducible exact ih0 _ _ _ _)
   | with_reducible apply monzo_Check.mono
   | with_reducible apply monzo_Sign.mono
   | (with_reducible exact LeO.refl _)
   | (with_reducible exact LeO.none _)
   | (with_reducible refine LeO.ite ?_ ?_)
   | (with_reducible refine LeO.bind ?_ (fun _ => ?_))
   | refine LeO.ite ?_ ?_
   | refine LeO.bind ?_ (fun _ => ?_)
theorem schismalaw16_check.mono : ∀ a0 a1 a2 k, LeO (schismalaw16_check.f k a0 a1 a2) (schismalaw16_check.f (k + 1) a0 a1 a2) := by
 intro a0 a1 a2 k
 have ih0 := schismalaw16_check.mono_l k
 unfold schismalaw16_check.f
 repeat' first
   | (with_reducible exact ih0 _ _ _ _)
   | with_reducible apply monzo_Check.mono
   | with_reducible apply monzo_Sign.mono
   | (with_reducible exact LeO.refl _)
   | (with_reducible exact LeO.none _)
   | (with_reducible refine LeO.ite ?_ ?_)
   | (with_reducible refine LeO.bind ?_ (fun _ => ?_))
   | refine LeO.ite ?_ ?_
   | refine LeO.bind ?_ (fun _ => ?_)
theorem schismalaw16_check.calls (k : Nat) (A0_0 : Option Addr) (c0_0 : Nat) (l0_0 : List Int) (a0_1 : Int) (A0_2 : Option Addr) (c0_2 : Nat) (l0_2 : List Int) (r : Int) (w : World) (hG : Glob w) (hr0_0 : Kd.C (Kd.int .i64) w A0_0 l0_0.length l0_0) (hc0_0 : l0_0.length ≤ c0_0) (hr0_2 : Kd.C (Kd.int .i64) w A0_2 l0_2.length l0_2) (hc0_2 : l0_2.length ≤ c0_2) (h : schismalaw16_check.f k l0_0 a0_1 l0_2 = some r) :
  Calls Tryz.prog 32 #[.agg #[.slice A0_0 l0_0.length c0_0, .int .i64 a0_1, .slice A0_2 l0_2.length c0_2]] w fun e w' => e = .returned (.int .i64 r) ∧ Below w.heap.size w w' := by
 have hu32 := Tryz.underlying32
 have HG := Aside0.mk hG
 clear hG
 have HR0_0 := Aside0.mk hr0_0
 have HC0_0 := Aside0.mk hc0_0
 clear hr0_0 hc0_0
 have HR0_2 := Aside0.mk hr0_2
 have HC0_2 := Aside0.mk hc0_2
 clear hr0_2 hc0_2
 have HB := Aside0.mk (Below.refl w.heap.size w)
 have H : ((monzo_Check.f k l0_0 l0_2).bind fun t691 => (if t691 = 0 then (if a0_1 < 1 then (schismalaw16_check.j0 k true l0_0 a0_1 l0_2) else (schismalaw16_check.j0 k (decide (a0_1 > 5000)) l0_0 a0_1 l0_2)) else (some t691))) = some r := h
 clear h
 replace H := Option.bind_eq_some_iff.mp H
 obtain ⟨t691, A20, H⟩ := H
 replace H : (if t691 = 0 then (if a0_1 < 1 then (schismalaw16_check.j0 k true l0_0 a0_1 l0_2) else (schismalaw16_check.j0 k (decide (a0_1 > 5000)) l0_0 a0_1 l0_2)) else (some t691)) = some r := H
 have A2 := Aside0.mk A20
 clear A20
 by_cases c3 : t691 = 0
 ·rw [if_pos c3] at H
  have c3b0 : (t691 == 0) = true := beq_iff_eq.mpr c3
  have c3b1 : (t691 != 0) = false := bne_eq_false_iff_eq.mpr c3
  clear c3
  have HC4 := Aside0.mk H
  clear H
  go_enter Tryz.func32, Tryz.ntmps32
  go_upto_region 4 with (first | ((with_reducible refine gate_dst (N := 1) rfl ?_); refine box_event ?hg (N := 1) ?hd (cs := #[.slice A0_0 l0_0.length c0_0, .int .i64 a0_1, .slice A0_2 l0_2.length c0_2]) (t := 32) ?hr ?_; (case hd => rfl); (case hg => rfl); (case hr => first | (go_simp; done) | (go_simp; rfl)); intro gb690 hg w5 hbox hb; have n0_ := Aside0.mk (below_step (by with_reducible repeat first | exact HB.out | apply below_alloc | apply pw_below_drewN | apply below_drew1) hb); have n1_ := Aside0.mk (hbox); have n2_ := Aside0.mk ((by rw [hg]; exact (below_size (by with_reducible repeat first | exact HB.out | apply below_alloc | apply pw_below_drewN | apply below_drew1)) : w.heap.size ≤ gb690)); have n3_ := Aside0.mk ((by rw [hg]; exact (below_size (by with_reducible repeat first | exact HB.out | apply below_alloc | apply pw_below_drewN | apply below_drew1)) : w.heap.size ≤ gb690)); clear HB; have HB := n0_; have BK690 := n1_; have GW690 := n2_; have GE690 := n3_; clear n0_ n1_ n2_ n3_; clear hb hbox hg; have hcz6_0 : w5.cell? ⟨gb690, 0, none⟩ = some (.slice A0_0 l0_0.length c0_0) := (blk_cell BK690.out 0).trans rfl; have hcz6_1 : w5.cell? ⟨gb690, 1, none⟩ = some (.int .i64 a0_1) := (blk_cell BK690.out 1).trans rfl; have hcz6_2 : w5.cell? ⟨gb690, 2, none⟩ = some (.slice A0_2 l0_2.length c0_2) := (blk_cell BK690.out 2).trans rfl; have hfz6_0 := blk_frozen BK690.out 0; have hfz6_1 := blk_frozen BK690.out 1; have hfz6_2 := blk_frozen BK690.out 2) | ((with_reducible refine gate_callee (f := 55) rfl ?_); refine goesL_ (some 10) rfl rfl Tryz.func55 (by kernel_rfl) rfl #[.slice A0_0 l0_0.length c0_0, .slice A0_2 l0_2.length c0_2] rfl (by (try simp only [List.map_toArray, List.map_cons, List.map_nil]); first | done | rfl | (simp only [List.length_drop, List.length_take]; rfl)) ?_; (with_reducible refine (monzo_Check.calls k _ _ l0_0 (fun k_ => k_ < w.heap.size) _ _ l0_2 t691 _ ?side1 ?side2 ?side3 A2.out).mono ?_); (case side1 => repeat (first | exact (Kd.C_below HR0_0.out HB.out) | (with_reducible refine Kd.C_alloc ?_ _) | (with_reducible refine Kd.C_drewN ?_ _) | (with_reducible refine Kd.C_drew ?_))); (case side2 => exact HC0_0.out); (case side3 => exact Kd.V_mk HC0_2.out (Kd.F_below (Kd.C_F (Kd.heap_int .i64) HR0_2.out) (by repeat (first | (with_reducible first | exact HB.out | apply below_alloc | apply pw_below_drewN | apply below_drew1 | refine below_set ?_ GE690.out) | exact HB.out)))); rintro e w7 ⟨rfl, hb⟩; refine ⟨_, rfl, ?_⟩; have n0_ := Aside0.mk (blk_below (g := gb690) (o := .cells #[.slice A0_0 l0_0.length c0_0, .int .i64 a0_1, .slice A0_2 l0_2.length c0_2] 32 (0, 0)) (by (with_reducible repeat (first | refine blk_drewN ?_ _ | refine blk_drew ?_ | refine blk_alloc ?_ _)); exact BK690.out) hb); have n1_ := Aside0.mk (below_step (by repeat (first | (with_reducible first | exact HB.out | apply below_alloc | apply pw_below_drewN | apply below_drew1 | refine below_set ?_ GE690.out) | exact HB.out)) hb); clear BK690; clear HB; have BK690 := n0_; have HB := n1_; clear n0_ n1_; (try clear hb); (try clear hb2); (try clear hk); (try clear hi)))
  (try simp only [Act.put, List.setIfInBounds_toArray, List.set_cons_zero, List.set_cons_succ])
  go_cut [21] (fun v21 wc => ∃ (kq : Nat) (x21_3 : Bool), v21 = .bool x21_3 ∧ Aside0 (schismalaw16_check.j0 kq x21_3 l0_0 a0_1 l0_2 = some r) ∧ Aside0 (kq ≤ k) ∧ Aside0 (wc.heap[gb690]? = some (.cells #[(.slice A0_0 l0_0.length c0_0), .int .i64 a0_1, (.slice A0_2 l0_2.length c0_2)] 32 (0, 0))) ∧ Aside0 (Below w.heap.size w wc))
  case first =>
   have H := HC4.out
   clear HC4
   by_cases c8 : a0_1 < 1
   ·rw [if_pos c8] at H
    have c8b0 : decide (a0_1 < 1) = true := decide_eq_true c8
    clear c8
    (first | rw [c8b0] | (simp only [i64_w, i32_w]; rw [c8b0]) | skip)
    have H' := Aside0.mk H
    clear H
    have hcz9_0 : w7.cell? ⟨gb690, 0, none⟩ = some (.slice A0_0 l0_0.length c0_0) := (blk_cell BK690.out 0).trans rfl
    have hcz9_1 : w7.cell? ⟨gb690, 1, none⟩ = some (.int .i64 a0_1) := (blk_cell BK690.out 1).trans rfl
    have hcz9_2 : w7.cell? ⟨gb690, 2, none⟩ = some (.slice A0_2 l0_2.length c0_2) := (blk_cell BK690.out 2).trans rfl
    have hfz9_0 := blk_frozen BK690.out 0
    have hfz9_1 := blk_frozen BK690.out 1
    have hfz9_2 := blk_frozen BK690.out 2
    go_wp2
    go_meet
    case rel => exact ⟨_, (true), (by first | rfl | (simp; done) | (simp [*]; done)), H', ⟨by first | omega | exact Nat.le_refl _⟩, ⟨by (with_reducible repeat (first | refine blk_drewN ?_ _ | refine blk_drew ?_ | refine blk_alloc ?_ _)); exact BK690.out⟩, ⟨by repeat (first | (with_reducible first | exact HB.out | apply below_alloc | apply pw_below_drewN | apply below_drew1 | refine below_set ?_ GE690.out) | exact HB.out)⟩⟩
   ·rw [if_neg c8] at H
    have c8b0 : decide (a0_1 < 1) = false := decide_eq_false c8
    clear c8
    (first | rw [c8b0] | (simp only [i64_w, i32_w]; rw [c8b0]) | skip)
    have H' := Aside0.mk H
    clear H
    have hcz10_0 : w7.cell? ⟨gb690, 0, none⟩ = some (.slice A0_0 l0_0.length c0_0) := (blk_cell BK690.out 0).trans rfl
    have hcz10_1 : w7.cell? ⟨gb690, 1, none⟩ = some (.int .i64 a0_1) := (blk_cell BK690.out 1).trans rfl
    have hcz10_2 : w7.cell? ⟨gb690, 2, none⟩ = some (.slice A0_2 l0_2.length c0_2) := (blk_cell BK690.out 2).trans rfl
    have hfz10_0 := blk_frozen BK690.out 0
    have hfz10_1 := blk_frozen BK690.out 1
    have hfz10_2 := blk_frozen BK690.out 2
    go_wp2
    go_meet
    case rel => exact ⟨_, (decide (a0_1 > 5000)), (by first | rfl | (simp; done) | (simp [*]; done)), H', ⟨by first | omega | exact Nat.le_refl _⟩, ⟨by (with_reducible repeat (first | refine blk_drewN ?_ _ | refine blk_drew ?_ | refine blk_alloc ?_ _)); exact BK690.out⟩, ⟨by repeat (first | (with_reducible first | exact HB.out | apply below_alloc | apply pw_below_drewN | apply below_drew1 | refine below_set ?_ GE690.out) | exact HB.out)⟩⟩
  case rest =>
   clear HC4
   try clear p2
   try clear c3
   try clear c3b0
   try clear c3b1
   try clear c5
   try clear c8
   try clear c8b0
   try clear hcz10_0
   try clear hcz10_1
   try clear hcz10_2
   try clear hcz6_0
   try clear hcz6_1
   try clear hcz6_2
   try clear hcz9_0
   try clear hcz9_1
   try clear hcz9_2
   try clear hfz10_0
   try clear hfz10_1
   try clear hfz10_2
   try clear hfz6_0
   try clear hfz6_1
   try clear hfz6_2
   try clear hfz9_0
   try clear hfz9_1
   try clear hfz9_2
   obtain ⟨kq, x21_3, rfl, HA, HJ3, BK690, HB⟩ := hcut
   cases kq with
   | zero => exact absurd HA.out (by simp [schismalaw16_check.j0])
   | succ kj3 =>
    have H := HA.out
    clear HA
    simp only [schismalaw16_check.j0] at H
    by_cases c11 : x21_3 = true
    ·subst c11
     have H1 : (some 3) = some r := by rw [if_pos rfl] at H; exact H
     clear H
     have H := H1
     clear H1
     obtain rfl := Option.some.inj H
     go_wp2
     go_ret
     exact ⟨by first | rfl | (simp [errW_none, errW_some] <;> rfl) | (simp [*, errW_none, errW_some] <;> rfl), by repeat (first | (with_reducible first | exact HB.out | apply below_alloc | apply pw_below_drewN | apply below_drew1 | refine below_set ?_ GE690.out) | exact HB.out)⟩
    ·replace c11 := Bool.eq_false_iff.mpr c11
     subst c11
     have H1 : ((monzo_Sign.f kj3 l0_0 l0_2).bind fun bt692 => (if bt692.1 ≤ 0 then (some 3) else (some 0))) = some r := by rw [if_neg (show ¬ (false = true) by decide)] at H; exact H
     clear H
     have H := H1
     clear H1
     replace H := Option.bind_eq_some_iff.mp H
     obtain ⟨⟨t692, t693⟩, A120, H⟩ := H
     replace H : (if t692 ≤ 0 then (some 3) else (some 0)) = some r := H
     have A12 := Aside0.mk A120
     clear A120
     by_cases c13 : t692 ≤ 0
     ·rw [if_pos c13] at H
      have c13b0 : decide (t692 ≤ 0) = true := decide_eq_true c13
      clear c13
      obtain rfl := Option.some.inj H
      have hcz14_0 : wc.cell? ⟨gb690, 0, none⟩ = some (.slice A0_0 l0_0.length c0_0) := (blk_cell BK690.out 0).trans rfl
      have hcz14_1 : wc.cell? ⟨gb690, 1, none⟩ = some (.int .i64 a0_1) := (blk_cell BK690.out 1).trans rfl
      have hcz14_2 : wc.cell? ⟨gb690, 2, none⟩ = some (.slice A0_2 l0_2.length c0_2) := (blk_cell BK690.out 2).trans rfl
      have hfz14_0 := blk_frozen BK690.out 0
      have hfz14_1 := blk_frozen BK690.out 1
      have hfz14_2 := blk_frozen BK690.out 2
      go_wp2_with (first | ((with_reducible refine gate_callee (f := 22) rfl ?_); refine goesL_ (some 27) rfl rfl Tryz.func22 (by kernel_rfl) rfl #[.slice A0_0 l0_0.length c0_0, .slice A0_2 l0_2.length c0_2] rfl (by (try simp only [List.map_toArray, List.map_cons, List.map_nil]); first | done | rfl | (simp only [List.length_drop, List.length_take]; rfl)) ?_; (with_reducible refine (monzo_Sign.calls kj3 _ _ l0_0 _ _ l0_2 t692 t693 _ ?side1 ?side2 ?side3 ?side4 ?side5 A12.out).mono ?_); (case side1 => exact Glob.below HG.out (by repeat (first | (with_reducible first | exact HB.out | apply below_alloc | apply pw_below_drewN | apply below_drew1 | refine below_set ?_ GE690.out) | exact HB.out))); (case side2 => repeat (first | exact (Kd.C_below HR0_0.out HB.out) | (with_reducible refine Kd.C_alloc ?_ _) | (with_reducible refine Kd.C_drewN ?_ _) | (with_reducible refine Kd.C_drew ?_))); (case side3 => exact HC0_0.out); (case side4 => repeat (first | exact (Kd.C_below HR0_2.out HB.out) | (with_reducible refine Kd.C_alloc ?_ _) | (with_reducible refine Kd.C_drewN ?_ _) | (with_reducible refine Kd.C_drew ?_))); (case side5 => exact HC0_2.out); rintro e w15 ⟨rfl, hb⟩; refine ⟨_, rfl, ?_⟩; have n0_ := Aside0.mk (blk_below (g := gb690) (o := .cells #[.slice A0_0 l0_0.length c0_0, .int .i64 a0_1, .slice A0_2 l0_2.length c0_2] 32 (0, 0)) (by (with_reducible repeat (first | refine blk_drewN ?_ _ | refine blk_drew ?_ | refine blk_alloc ?_ _)); exact BK690.out) hb); have n1_ := Aside0.mk (below_step (by repeat (first | (with_reducible first | exact HB.out | apply below_alloc | apply pw_below_drewN | apply below_drew1 | refine below_set ?_ GE690.out) | exact HB.out)) hb); clear BK690; clear HB; have BK690 := n0_; have HB := n1_; clear n0_ n1_; (try clear hb); (try clear hb2); (try clear hk); (try clear hi)))
      go_ret
      exact ⟨by first | rfl | (simp [errW_none, errW_some] <;> rfl) | (simp [*, errW_none, errW_some] <;> rfl), by repeat (first | (with_reducible first | exact HB.out | apply below_alloc | apply pw_below_drewN | apply below_drew1 | refine below_set ?_ GE690.out) | exact HB.out)⟩
     ·rw [if_neg c13] at H
      have c13b0 : decide (t692 ≤ 0) = false := decide_eq_false c13
      clear c13
      obtain rfl := Option.some.inj H
      have hcz16_0 : wc.cell? ⟨gb690, 0, none⟩ = some (.slice A0_0 l0_0.length c0_0) := (blk_cell BK690.out 0).trans rfl
      have hcz16_1 : wc.cell? ⟨gb690, 1, none⟩ = some (.int .i64 a0_1) := (blk_cell BK690.out 1).trans rfl
      have hcz16_2 : wc.cell? ⟨gb690, 2, none⟩ = some (.slice A0_2 l0_2.length c0_2) := (blk_cell BK690.out 2).trans rfl
      have hfz16_0 := blk_frozen BK690.out 0
      have hfz16_1 := blk_frozen BK690.out 1
      have hfz16_2 := blk_frozen BK690.out 2
      go_wp2_with (first | ((with_reducible refine gate_callee (f := 22) rfl ?_); refine goesL_ (some 27) rfl rfl Tryz.func22 (by kernel_rfl) rfl #[.slice A0_0 l0_0.length c0_0, .slice A0_2 l0_2.length c0_2] rfl (by (try simp only [List.map_toArray, List.map_cons, List.map_nil]); first | done | rfl | (simp only [List.length_drop, List.length_take]; rfl)) ?_; (with_reducible refine (monzo_Sign.calls kj3 _ _ l0_0 _ _ l0_2 t692 t693 _ ?side1 ?side2 ?side3 ?side4 ?side5 A12.out).mono ?_); (case side1 => exact Glob.below HG.out (by repeat (first | (with_reducible first | exact HB.out | apply below_alloc | apply pw_below_drewN | apply below_drew1 | refine below_set ?_ GE690.out) | exact HB.out))); (case side2 => repeat (first | exact (Kd.C_below HR0_0.out HB.out) | (with_reducible refine Kd.C_alloc ?_ _) | (with_reducible refine Kd.C_drewN ?_ _) | (with_reducible refine Kd.C_drew ?_))); (case side3 => exact HC0_0.out); (case side4 => repeat (first | exact (Kd.C_below HR0_2.out HB.out) | (with_reducible refine Kd.C_alloc ?_ _) | (with_reducible refine Kd.C_drewN ?_ _) | (with_reducible refine Kd.C_drew ?_))); (case side5 => exact HC0_2.out); rintro e w17 ⟨rfl, hb⟩; refine ⟨_, rfl, ?_⟩; have n0_ := Aside0.mk (blk_below (g := gb690) (o := .cells #[.slice A0_0 l0_0.length c0_0, .int .i64 a0_1, .slice A0_2 l0_2.length c0_2] 32 (0, 0)) (by (with_reducible repeat (first | refine blk_drewN ?_ _ | refine blk_drew ?_ | refine blk_alloc ?_ _)); exact BK690.out) hb); have n1_ := Aside0.mk (below_step (by repeat (first | (with_reducible first | exact HB.out | apply below_alloc | apply pw_below_drewN | apply below_drew1 | refine below_set ?_ GE690.out) | exact HB.out)) hb); clear BK690; clear HB; have BK690 := n0_; have HB := n1_; clear n0_ n1_; (try clear hb); (try clear hb2); (try clear hk); (try clear hi)))
      go_ret
      exact ⟨by first | rfl | (simp [errW_none, errW_some] <;> rfl) | (simp [*, errW_none, errW_some] <;> rfl), by repeat (first | (with_reducible first | exact HB.out | apply below_alloc | apply pw_below_drewN | apply below_drew1 | refine below_set ?_ GE690.out) | exact HB.out)⟩
 ·rw [if_neg c3] at H
  have c3b0 : (t691 == 0) = false := beq_eq_false_iff_ne.mpr c3
  have c3b1 : (t691 != 0) = true := bne_iff_ne.mpr c3
  obtain rfl := Option.some.inj H
  go_enter Tryz.func32, Tryz.ntmps32
  go_wp2_with (first | ((with_reducible refine gate_dst (N := 1) rfl ?_); refine box_event ?hg (N := 1) ?hd (cs := #[.slice A0_0 l0_0.length c0_0, .int .i64 a0_1, .slice A0_2 l0_2.length c0_2]) (t := 32) ?hr ?_; (case hd => rfl); (case hg => rfl); (case hr => first | (go_simp; done) | (go_simp; rfl)); intro gb690 hg w18 hbox hb; have n0_ := Aside0.mk (below_step (by with_reducible repeat first | exact HB.out | apply below_alloc | apply pw_below_drewN | apply below_drew1) hb); have n1_ := Aside0.mk (hbox); have n2_ := Aside0.mk ((by rw [hg]; exact (below_size (by with_reducible repeat first | exact HB.out | apply below_alloc | apply pw_below_drewN | apply below_drew1)) : w.heap.size ≤ gb690)); have n3_ := Aside0.mk ((by rw [hg]; exact (below_size (by with_reducible repeat first | exact HB.out | apply below_alloc | apply pw_below_drewN | apply below_drew1)) : w.heap.size ≤ gb690)); clear HB; have HB := n0_; have BK690 := n1_; have GW690 := n2_; have GE690 := n3_; clear n0_ n1_ n2_ n3_; clear hb hbox hg; have hcz19_0 : w18.cell? ⟨gb690, 0, none⟩ = some (.slice A0_0 l0_0.length c0_0) := (blk_cell BK690.out 0).trans rfl; have hcz19_1 : w18.cell? ⟨gb690, 1, none⟩ = some (.int .i64 a0_1) := (blk_cell BK690.out 1).trans rfl; have hcz19_2 : w18.cell? ⟨gb690, 2, none⟩ = some (.slice A0_2 l0_2.length c0_2) := (blk_cell BK690.out 2).trans rfl; have hfz19_0 := blk_frozen BK690.out 0; have hfz19_1 := blk_frozen BK690.out 1; have hfz19_2 := blk_frozen BK690.out 2) | ((with_reducible refine gate_callee (f := 55) rfl ?_); refine goesL_ (some 10) rfl rfl Tryz.func55 (by kernel_rfl) rfl #[.slice A0_0 l0_0.length c0_0, .slice A0_2 l0_2.length c0_2] rfl (by (try simp only [List.map_toArray, List.map_cons, List.map_nil]); first | done | rfl | (simp only [List.length_drop, List.length_take]; rfl)) ?_; (with_reducible refine (monzo_Check.calls k _ _ l0_0 (fun k_ => k_ < w.heap.size) _ _ l0_2 t691 _ ?side1 ?side2 ?side3 A2.out).mono ?_); (case side1 => repeat (first | exact (Kd.C_below HR0_0.out HB.out) | (with_reducible refine Kd.C_alloc ?_ _) | (with_reducible refine Kd.C_drewN ?_ _) | (with_reducible refine Kd.C_drew ?_))); (case side2 => exact HC0_0.out); (case side3 => exact Kd.V_mk HC0_2.out (Kd.F_below (Kd.C_F (Kd.heap_int .i64) HR0_2.out) (by repeat (first | (with_reducible first | exact HB.out | apply below_alloc | apply pw_below_drewN | apply below_drew1 | refine below_set ?_ GE690.out) | exact HB.out)))); rintro e w20 ⟨rfl, hb⟩; refine ⟨_, rfl, ?_⟩; have n0_ := Aside0.mk (blk_below (g := gb690) (o := .cells #[.slice A0_0 l0_0.length c0_0, .int .i64 a0_1, .slice A0_2 l0_2.length c0_2] 32 (0, 0)) (by (with_reducible repeat (first | refine blk_drewN ?_ _ | refine blk_drew ?_ | refine blk_alloc ?_ _)); exact BK690.out) hb); have n1_ := Aside0.mk (below_step (by repeat (first | (with_reducible first | exact HB.out | apply below_alloc | apply pw_below_drewN | apply below_drew1 | refine below_set ?_ GE690.out) | exact HB.out)) hb); clear BK690; clear HB; have BK690 := n0_; have HB := n1_; clear n0_ n1_; (try clear hb); (try clear hb2); (try clear hk); (try clear hi)))
  go_ret
  exact ⟨by first | rfl | (simp [errW_none, errW_some] <;> rfl) | (simp [*, errW_none, errW_some] <;> rfl), by repeat (first | (with_reducible first | exact HB.out | apply below_alloc | apply pw_below_drewN | apply below_drew1 | refine below_set ?_ GE690.out) | exact HB.out)⟩
end Go.Proofs.YtobdccgpbohpiaaGreatDoor.F
