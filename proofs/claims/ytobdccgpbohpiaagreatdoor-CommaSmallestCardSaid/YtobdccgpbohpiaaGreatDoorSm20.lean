/- Sm: a part of the proof. -/
import Derived.Test.YtobdccgpbohpiaaGreatDoorSm13
import Derived.Test.YtobdccgpbohpiaaGreatDoorSm15
import Derived.Test.YtobdccgpbohpiaaGreatDoorSm19
namespace Go.Proofs.YtobdccgpbohpiaaGreatDoor.F
set_option maxHeartbeats 8000000
set_option maxRecDepth 100000
open Go.RowKit Go.Proofs.YtobdccgpbohpiaaGreatDoorW.PrintWords Go.Proofs.YtobdccgpbohpiaaGreatDoorW.PrintLast Go.Proofs.YtobdccgpbohpiaaGreatDoorW.PrintMore
attribute [local go_sem] max2_int min2_int max_two min_two max_three min_three max_four min_four
set_option linter.unusedVariables false
set_option linter.unusedSimpArgs false
def monzo_Sign.f (k : Nat) (l0 : List Int) (l1 : List Int) : Option (Int × Int) := (monzo_Check.f k l0 l1).bind fun t262 => (if t262 = 0 then ((monzo_sides.f k l0 l1).bind fun bt263 => ((g_decimal_Compare.f bt263.1 bt263.2).bind fun t265 => (some (t265, 0)))) else (some (0, t262)))
theorem monzo_Sign.mono : ∀ a0 a1 k, LeO (monzo_Sign.f k a0 a1) (monzo_Sign.f (k + 1) a0 a1) := by
 intro a0 a1 k
 unfold monzo_Sign.f
 repeat' first
   | with_reducible apply monzo_Check.mono
   | with_reducible apply monzo_sides.mono
   | (with_reducible exact LeO.refl _)
   | (with_reducible exact LeO.none _)
   | (with_reducible refine LeO.ite ?_ ?_)
   | (with_reducible refine LeO.bind ?_ (fun _ => ?_))
   | refine LeO.ite ?_ ?_
   | refine LeO.bind ?_ (fun _ => ?_)
theorem monzo_Sign.calls (k : Nat) (A0 : Option Addr) (c0 : Nat) (l0 : List Int) (A1 : Option Addr) (c1 : Nat) (l1 : List Int) (r1 : Int) (r2 : Int) (w : World) (hG : Glob w) (hr0 : Kd.C (Kd.int .i64) w A0 l0.length l0) (hc0 : l0.length ≤ c0) (hr1 : Kd.C (Kd.int .i64) w A1 l1.length l1) (hc1 : l1.length ≤ c1) (h : monzo_Sign.f k l0 l1 = some (r1, r2)) :
  Calls Tryz.prog 22 #[.slice A0 l0.length c0, .slice A1 l1.length c1] w fun e w' => e = .returned (.tuple #[.int .i64 r1, .int .i64 r2]) ∧ Below w.heap.size w w' := by
 have HG := Aside0.mk hG
 clear hG
 have HR0 := Aside0.mk hr0
 have HC0 := Aside0.mk hc0
 clear hr0 hc0
 have HR1 := Aside0.mk hr1
 have HC1 := Aside0.mk hc1
 clear hr1 hc1
 have HB := Aside0.mk (Below.refl w.heap.size w)
 have H : ((monzo_Check.f k l0 l1).bind fun t262 => (if t262 = 0 then ((monzo_sides.f k l0 l1).bind fun bt263 => ((g_decimal_Compare.f bt263.1 bt263.2).bind fun t265 => (some (t265, 0)))) else (some (0, t262)))) = some (r1, r2) := h
 clear h
 replace H := Option.bind_eq_some_iff.mp H
 obtain ⟨t262, A30, H⟩ := H
 replace H : (if t262 = 0 then ((monzo_sides.f k l0 l1).bind fun bt263 => ((g_decimal_Compare.f bt263.1 bt263.2).bind fun t265 => (some (t265, 0)))) else (some (0, t262))) = some (r1, r2) := H
 have A3 := Aside0.mk A30
 clear A30
 by_cases c4 : t262 = 0
 ·rw [if_pos c4] at H
  have c4b0 : (t262 == 0) = true := beq_iff_eq.mpr c4
  have c4b1 : (t262 != 0) = false := bne_eq_false_iff_eq.mpr c4
  clear c4
  replace H := Option.bind_eq_some_iff.mp H
  obtain ⟨⟨t263, t264⟩, A50, H⟩ := H
  replace H : ((g_decimal_Compare.f t263 t264).bind fun t265 => (some (t265, 0))) = some (r1, r2) := H
  have A5 := Aside0.mk A50
  clear A50
  replace H := Option.bind_eq_some_iff.mp H
  obtain ⟨t265, A60, H⟩ := H
  replace H : (some (t265, 0)) = some (r1, r2) := H
  have A6 := Aside0.mk A60
  clear A60
  simp only [Option.some.injEq, Prod.mk.injEq] at H
  obtain ⟨rfl, rfl⟩ := H
  go_enter Tryz.func22, Tryz.ntmps22
  go_wp2_with (first | ((with_reducible refine gate_callee (f := 55) rfl ?_); refine goesL_ (some 9) rfl rfl Tryz.func55 (by kernel_rfl) rfl #[.slice A0 l0.length c0, .slice A1 l1.length c1] rfl (by (try simp only [List.map_toArray, List.map_cons, List.map_nil]); first | done | rfl | (simp only [List.length_drop, List.length_take]; rfl)) ?_; (with_reducible refine (monzo_Check.calls k _ _ l0 (fun k_ => k_ < w.heap.size) _ _ l1 t262 _ ?side1 ?side2 ?side3 A3.out).mono ?_); (case side1 => repeat (first | exact HR0.out | (with_reducible refine Kd.C_alloc ?_ _) | (with_reducible refine Kd.C_drewN ?_ _) | (with_reducible refine Kd.C_drew ?_))); (case side2 => exact HC0.out); (case side3 => exact Kd.V_mk HC1.out (Kd.F_below (Kd.C_F (Kd.heap_int .i64) HR1.out) (by with_reducible repeat first | exact HB.out | apply below_alloc | apply pw_below_drewN | apply below_drew1))); rintro e w7 ⟨rfl, hb⟩; refine ⟨_, rfl, ?_⟩; have n0_ := Aside0.mk (below_step (by with_reducible repeat first | exact HB.out | apply below_alloc | apply pw_below_drewN | apply below_drew1) hb); clear HB; have HB := n0_; clear n0_; (try clear hb); (try clear hb2); (try clear hk); (try clear hi)) | ((with_reducible refine gate_callee (f := 57) rfl ?_); refine goesL_ (some 15) rfl rfl Tryz.func57 (by kernel_rfl) rfl #[.slice A0 l0.length c0, .slice A1 l1.length c1] rfl (by (try simp only [List.map_toArray, List.map_cons, List.map_nil]); first | done | rfl | (simp only [List.length_drop, List.length_take]; rfl)) ?_; (with_reducible refine (monzo_sides.calls k _ _ l0 _ _ l1 t263 t264 _ ?side1 ?side2 ?side3 ?side4 ?side5 A5.out).mono ?_); (case side1 => exact Glob.below HG.out (by with_reducible repeat first | exact HB.out | apply below_alloc | apply pw_below_drewN | apply below_drew1)); (case side2 => repeat (first | exact (Kd.C_below HR0.out HB.out) | (with_reducible refine Kd.C_alloc ?_ _) | (with_reducible refine Kd.C_drewN ?_ _) | (with_reducible refine Kd.C_drew ?_))); (case side3 => exact HC0.out); (case side4 => repeat (first | exact (Kd.C_below HR1.out HB.out) | (with_reducible refine Kd.C_alloc ?_ _) | (with_reducible refine Kd.C_drewN ?_ _) | (with_reducible refine Kd.C_drew ?_))); (case side5 => exact HC1.out); rintro e w8 ⟨rfl, hb⟩; refine ⟨_, rfl, ?_⟩; have n0_ := Aside0.mk (below_step (by with_reducible repeat first | exact HB.out | apply below_alloc | apply pw_below_drewN | apply below_drew1) hb); clear HB; have HB := n0_; clear n0_; (try clear hb); (try clear hb2); (try clear hk); (try clear hi)) | ((with_reducible refine gate_callee (f := 56) rfl ?_); refine goesL_ (some 18) rfl rfl Tryz.func56 (by kernel_rfl) rfl #[.string t263, .string t264] rfl (by (try simp only [List.map_toArray, List.map_cons, List.map_nil]); first | done | rfl | (simp only [List.length_drop, List.length_take]; rfl)) ?_; (with_reducible refine (g_decimal_Compare.calls t263 t264 t265 _ A6.out).mono ?_); rintro e w9 ⟨rfl, hb⟩; refine ⟨_, rfl, ?_⟩; have n0_ := Aside0.mk (below_step (by with_reducible repeat first | exact HB.out | apply below_alloc | apply pw_below_drewN | apply below_drew1) hb); clear HB; have HB := n0_; clear n0_; (try clear hb); (try clear hb2); (try clear hk); (try clear hi)))
  go_ret2
  exact ⟨by first | rfl | (simp [errW_none, errW_some] <;> rfl) | (simp [*, errW_none, errW_some] <;> rfl), by with_reducible repeat first | exact HB.out | apply below_alloc | apply pw_below_drewN | apply below_drew1⟩
 ·rw [if_neg c4] at H
  have c4b0 : (t262 == 0) = false := beq_eq_false_iff_ne.mpr c4
  have c4b1 : (t262 != 0) = true := bne_iff_ne.mpr c4
  simp only [Option.some.injEq, Prod.mk.injEq] at H
  obtain ⟨rfl, rfl⟩ := H
  go_enter Tryz.func22, Tryz.ntmps22
  go_wp2_with (first | ((with_reducible refine gate_callee (f := 55) rfl ?_); refine goesL_ (some 9) rfl rfl Tryz.func55 (by kernel_rfl) rfl #[.slice A0 l0.length c0, .slice A1 l1.length c1] rfl (by (try simp only [List.map_toArray, List.map_cons, List.map_nil]); first | done | rfl | (simp only [List.length_drop, List.length_take]; rfl)) ?_; (with_reducible refine (monzo_Check.calls k _ _ l0 (fun k_ => k_ < w.heap.size) _ _ l1 t262 _ ?side1 ?side2 ?side3 A3.out).mono ?_); (case side1 => repeat (first | exact HR0.out | (with_reducible refine Kd.C_alloc ?_ _) | (with_reducible refine Kd.C_drewN ?_ _) | (with_reducible refine Kd.C_drew ?_))); (case side2 => exact HC0.out); (case side3 => exact Kd.V_mk HC1.out (Kd.F_below (Kd.C_F (Kd.heap_int .i64) HR1.out) (by with_reducible repeat first | exact HB.out | apply below_alloc | apply pw_below_drewN | apply below_drew1))); rintro e w10 ⟨rfl, hb⟩; refine ⟨_, rfl, ?_⟩; have n0_ := Aside0.mk (below_step (by with_reducible repeat first | exact HB.out | apply below_alloc | apply pw_below_drewN | apply below_drew1) hb); clear HB; have HB := n0_; clear n0_; (try clear hb); (try clear hb2); (try clear hk); (try clear hi)))
  go_ret2
  exact ⟨by first | rfl | (simp [errW_none, errW_some] <;> rfl) | (simp [*, errW_none, errW_some] <;> rfl), by with_reducible repeat first | exact HB.out | apply below_alloc | apply pw_below_drewN | apply below_drew1⟩
def comma_Check.j0 : Nat → Int → Bool → Option (Int)
 | 0, _, _ => none
 | k + 1, x3, x17 => if x17 = true then (some 3) else (if x3 ≤ 0 then (some 3) else (some 0))
def comma_Check.f (k : Nat) (l0_0 : List Int) (a0_1 : Int) (l0_2 : List Int) : Option (Int) := (monzo_Sign.f k l0_0 l0_2).bind fun bt267 => (if bt267.2 = 0 then (if a0_1 < 1 then (comma_Check.j0 k bt267.1 true) else (comma_Check.j0 k bt267.1 (decide (a0_1 > 5000)))) else (some bt267.2))
theorem comma_Check.mono_l : ∀ k, (∀ y0 y1, LeO (comma_Check.j0 k y0 y1) (comma_Check.j0 (k + 1) y0 y1))
 | 0 => fun _ _ r h => by simp [comma_Check.j0] at h
 | k + 1 => by
  have ih0 := comma_Check.mono_l k
  ·intro y0 y1
   unfold comma_Check.j0
   repeat' first
   | (with_reducible exact ih0 _ _)
   | with_reducible apply monzo_Sign.mono
   | (with_reducible exact LeO.refl _)
   | (with_reducible exact LeO.none _)
   | (with_reducible refine LeO.ite ?_ ?_)
   | (with_reducible refine LeO.bind ?_ (fun _ => ?_))
   | refine LeO.ite ?_ ?_
   | refine LeO.bind ?_ (fun _ => ?_)
theorem comma_Check.mono : ∀ a0 a1 a2 k, LeO (comma_Check.f k a0 a1 a2) (comma_Check.f (k + 1) a0 a1 a2) := by
 intro a0 a1 a2 k
 have ih0 := comma_Check.mono_l k
 unfold comma_Check.f
 repeat' first
   | (with_reducible exact ih0 _ _)
   | with_reducible apply monzo_Sign.mono
   | (with_reducible exact LeO.refl _)
   | (with_reducible exact LeO.none _)
   | (with_reducible refine LeO.ite ?_ ?_)
   | (with_reducible refine LeO.bind ?_ (fun _ => ?_))
   | refine LeO.ite ?_ ?_
   | refine LeO.bind ?_ (fun _ => ?_)
theorem comma_Check.calls (k : Nat) (A0_0 : Option Addr) (c0_0 : Nat) (l0_0 : List Int) (a0_1 : Int) (A0_2 : Option Addr) (c0_2 : Nat) (l0_2 : List Int) (r : Int) (w : World) (hG : Glob w) (hr0_0 : Kd.C (Kd.int .i64) w A0_0 l0_0.length l0_0) (hc0_0 : l0_0.length ≤ c0_0) (hr0_2 : Kd.C (Kd.int .i64) w A0_2 l0_2.length l0_2) (hc0_2 : l0_2.length ≤ c0_2) (h : comma_Check.f k l0_0 a0_1 l0_2 = some r) :
  Calls Tryz.prog 33 #[.agg #[.slice A0_0 l0_0.length c0_0, .int .i64 a0_1, .slice A0_2 l0_2.length c0_2]] w fun e w' => e = .returned (.int .i64 r) ∧ Below w.heap.size w w' := by
 have hu32 := Tryz.underlying32
 have HG := Aside0.mk hG
 clear hG
 have HR0_0 := Aside0.mk hr0_0
 have HC0_0 := Aside0.mk hc0_0
 clear hr0_0 hc0_0
 have HR0_2 := Aside0.mk hr0_2
 have HC0_2 := Aside0.mk hc0_2
 clear hr0_2 hc0_2
 have HB := Aside0.mk (Below.refl w.heap.size w)
 have H : ((monzo_Sign.f k l0_0 l0_2).bind fun bt267 => (if bt267.2 = 0 then (if a0_1 < 1 then (comma_Check.j0 k bt267.1 true) else (comma_Check.j0 k bt267.1 (decide (a0_1 > 5000)))) else (some bt267.2))) = some r := h
 clear h
 replace H := Option.bind_eq_some_iff.mp H
 obtain ⟨⟨t267, t268⟩, A20, H⟩ := H
 replace H : (if t268 = 0 then (if a0_1 < 1 then (comma_Check.j0 k t267 true) else (comma_Check.j0 k t267 (decide (a0_1 > 5000)))) else (some t268)) = some r := H
 have A2 := Aside0.mk A20
 clear A20
 by_cases c3 : t268 = 0
 ·rw [if_pos c3] at H
  have c3b0 : (t268 == 0) = true := beq_iff_eq.mpr c3
  have c3b1 : (t268 != 0) = false := bne_eq_false_iff_eq.mpr c3
  clear c3
  have HC4 := Aside0.mk H
  clear H
  go_enter Tryz.func33, Tryz.ntmps33
  go_upto_region 4 with (first | ((with_reducible refine gate_dst (N := 1) rfl ?_); refine box_event ?hg (N := 1) ?hd (cs := #[.slice A0_0 l0_0.length c0_0, .int .i64 a0_1, .slice A0_2 l0_2.length c0_2]) (t := 32) ?hr ?_; (case hd => rfl); (case hg => rfl); (case hr => first | (go_simp; done) | (go_simp; rfl)); intro gb266 hg w5 hbox hb; have n0_ := Aside0.mk (below_step (by with_reducible repeat first | exact HB.out | apply below_alloc | apply pw_below_drewN | apply below_drew1) hb); have n1_ := Aside0.mk (hbox); have n2_ := Aside0.mk ((by rw [hg]; exact (below_size (by with_reducible repeat first | exact HB.out | apply below_alloc | apply pw_below_drewN | apply below_drew1)) : w.heap.size ≤ gb266)); have n3_ := Aside0.mk ((by rw [hg]; exact (below_size (by with_reducible repeat first | exact HB.out | apply below_alloc | apply pw_below_drewN | apply below_drew1)) : w.heap.size ≤ gb266)); clear HB; have HB := n0_; have BK266 := n1_; have GW266 := n2_; have GE266 := n3_; clear n0_ n1_ n2_ n3_; clear hb hbox hg; have hcz6_0 : w5.cell? ⟨gb266, 0, none⟩ = some (.slice A0_0 l0_0.length c0_0) := (blk_cell BK266.out 0).trans rfl; have hcz6_1 : w5.cell? ⟨gb266, 1, none⟩ = some (.int .i64 a0_1) := (blk_cell BK266.out 1).trans rfl; have hcz6_2 : w5.cell? ⟨gb266, 2, none⟩ = some (.slice A0_2 l0_2.length c0_2) := (blk_cell BK266.out 2).trans rfl; have hfz6_0 := blk_frozen BK266.out 0; have hfz6_1 := blk_frozen BK266.out 1; have hfz6_2 := blk_frozen BK266.out 2) | ((with_reducible refine gate_callee (f := 22) rfl ?_); refine goesL_ (some 10) rfl rfl Tryz.func22 (by kernel_rfl) rfl #[.slice A0_0 l0_0.length c0_0, .slice A0_2 l0_2.length c0_2] rfl (by (try simp only [List.map_toArray, List.map_cons, List.map_nil]); first | done | rfl | (simp only [List.length_drop, List.length_take]; rfl)) ?_; (with_reducible refine (monzo_Sign.calls k _ _ l0_0 _ _ l0_2 t267 t268 _ ?side1 ?side2 ?side3 ?side4 ?side5 A2.out).mono ?_); (case side1 => exact Glob.below HG.out (by repeat (first | (with_reducible first | exact HB.out | apply below_alloc | apply pw_below_drewN | apply below_drew1 | refine below_set ?_ GE266.out) | exact HB.out))); (case side2 => repeat (first | exact (Kd.C_below HR0_0.out HB.out) | (with_reducible refine Kd.C_alloc ?_ _) | (with_reducible refine Kd.C_drewN ?_ _) | (with_reducible refine Kd.C_drew ?_))); (case side3 => exact HC0_0.out); (case side4 => repeat (first | exact (Kd.C_below HR0_2.out HB.out) | (with_reducible refine Kd.C_alloc ?_ _) | (with_reducible refine Kd.C_drewN ?_ _) | (with_reducible refine Kd.C_drew ?_))); (case side5 => exact HC0_2.out); rintro e w7 ⟨rfl, hb⟩; refine ⟨_, rfl, ?_⟩; have n0_ := Aside0.mk (blk_below (g := gb266) (o := .cells #[.slice A0_0 l0_0.length c0_0, .int .i64 a0_1, .slice A0_2 l0_2.length c0_2] 32 (0, 0)) (by (with_reducible repeat (first | refine blk_drewN ?_ _ | refine blk_drew ?_ | refine blk_alloc ?_ _)); exact BK266.out) hb); have n1_ := Aside0.mk (below_step (by repeat (first | (with_reducible first | exact HB.out | apply below_alloc | apply pw_below_drewN | apply below_drew1 | refine below_set ?_ GE266.out) | exact HB.out)) hb); clear BK266; clear HB; have BK266 := n0_; have HB := n1_; clear n0_ n1_; (try clear hb); (try clear hb2); (try clear hk); (try clear hi)))
  (try simp only [Act.put, List.setIfInBounds_toArray, List.set_cons_zero, List.set_cons_succ])
  go_cut [17] (fun v17 wc => ∃ (kq : Nat) (x17_3 : Bool), v17 = .bool x17_3 ∧ Aside0 (comma_Check.j0 kq t267 x17_3 = some r) ∧ Aside0 (kq ≤ k) ∧ Aside0 (wc.heap[gb266]? = some (.cells #[(.slice A0_0 l0_0.length c0_0), .int .i64 a0_1, (.slice A0_2 l0_2.length c0_2)] 32 (0, 0))) ∧ Aside0 (Below w.heap.size w wc))
  case first =>
   have H := HC4.out
   clear HC4
   by_cases c8 : a0_1 < 1
   ·rw [if_pos c8] at H
    have c8b0 : decide (a0_1 < 1) = true := decide_eq_true c8
    clear c8
    (first | rw [c8b0] | (simp only [i64_w, i32_w]; rw [c8b0]) | skip)
    have H' := Aside0.mk H
    clear H
    have hcz9_0 : w7.cell? ⟨gb266, 0, none⟩ = some (.slice A0_0 l0_0.length c0_0) := (blk_cell BK266.out 0).trans rfl
    have hcz9_1 : w7.cell? ⟨gb266, 1, none⟩ = some (.int .i64 a0_1) := (blk_cell BK266.out 1).trans rfl
    have hcz9_2 : w7.cell? ⟨gb266, 2, none⟩ = some (.slice A0_2 l0_2.length c0_2) := (blk_cell BK266.out 2).trans rfl
    have hfz9_0 := blk_frozen BK266.out 0
    have hfz9_1 := blk_frozen BK266.out 1
    have hfz9_2 := blk_frozen BK266.out 2
    go_wp2
    go_meet
    case rel => exact ⟨_, (true), (by first | rfl | (simp; done) | (simp [*]; done)), H', ⟨by first | omega | exact Nat.le_refl _⟩, ⟨by (with_reducible repeat (first | refine blk_drewN ?_ _ | refine blk_drew ?_ | refine blk_alloc ?_ _)); exact BK266.out⟩, ⟨by repeat (first | (with_reducible first | exact HB.out | apply below_alloc | apply pw_below_drewN | apply below_drew1 | refine below_set ?_ GE266.out) | exact HB.out)⟩⟩
   ·rw [if_neg c8] at H
    have c8b0 : decide (a0_1 < 1) = false := decide_eq_false c8
    clear c8
    (first | rw [c8b0] | (simp only [i64_w, i32_w]; rw [c8b0]) | skip)
    have H' := Aside0.mk H
    clear H
    have hcz10_0 : w7.cell? ⟨gb266, 0, none⟩ = some (.slice A0_0 l0_0.length c0_0) := (blk_cell BK266.out 0).trans rfl
    have hcz10_1 : w7.cell? ⟨gb266, 1, none⟩ = some (.int .i64 a0_1) := (blk_cell BK266.out 1).trans rfl
    have hcz10_2 : w7.cell? ⟨gb266, 2, none⟩ = some (.slice A0_2 l0_2.length c0_2) := (blk_cell BK266.out 2).trans rfl
    have hfz10_0 := blk_frozen BK266.out 0
    have hfz10_1 := blk_frozen BK266.out 1
    have hfz10_2 := blk_frozen BK266.out 2
    go_wp2
    go_meet
    case rel => exact ⟨_, (decide (a0_1 > 5000)), (by first | rfl | (simp; done) | (simp [*]; done)), H', ⟨by first | omega | exact Nat.le_refl _⟩, ⟨by (with_reducible repeat (first | refine blk_drewN ?_ _ | refine blk_drew ?_ | refine blk_alloc ?_ _)); exact BK266.out⟩, ⟨by repeat (first | (with_reducible first | exact HB.out | apply below_alloc | apply pw_below_drewN | apply below_drew1 | refine below_set ?_ GE266.out) | exact HB.out)⟩⟩
  case rest =>
   clear HC4
   try clear c2
   try clear p2
   try clear c3
   try clear c3b0
   try clear c3b1
   try clear c8
   try clear c8b0
   try clear hcz10_0
   try clear hcz10_1
   try clear hcz10_2
   try clear hcz6_0
   try clear hcz6_1
   try clear hcz6_2
   try clear hcz9_0
   try clear hcz9_1
   try clear hcz9_2
   try clear hfz10_0
   try clear hfz10_1
   try clear hfz10_2
   try clear hfz6_0
   try clear hfz6_1
   try clear hfz6_2
   try clear hfz9_0
   try clear hfz9_1
   try clear hfz9_2
   obtain ⟨kq, x17_3, rfl, HA, HJ3, BK266, HB⟩ := hcut
   cases kq with
   | zero => exact absurd HA.out (by simp [comma_Check.j0])
   | succ kj3 =>
    have H := HA.out
    clear HA
    simp only [comma_Check.j0] at H
    by_cases c11 : x17_3 = true
    ·subst c11
     have H1 : (some 3) = some r := by rw [if_pos rfl] at H; exact H
     clear H
     have H := H1
     clear H1
     obtain rfl := Option.some.inj H
     go_wp2
     go_ret
     exact ⟨by first | rfl | (simp [errW_none, errW_some] <;> rfl) | (simp [*, errW_none, errW_some] <;> rfl), by repeat (first | (with_reducible first | exact HB.out | apply below_alloc | apply pw_below_drewN | apply below_drew1 | refine below_set ?_ GE266.out) | exact HB.out)⟩
    ·replace c11 := Bool.eq_false_iff.mpr c11
     subst c11
     have H1 : (if t267 ≤ 0 then (some 3) else (some 0)) = some r := by rw [if_neg (show ¬ (false = true) by decide)] at H; exact H
     clear H
     have H := H1
     clear H1
     by_cases c12 : t267 ≤ 0
     ·rw [if_pos c12] at H
      have c12b0 : decide (t267 ≤ 0) = true := decide_eq_true c12
      clear c12
      obtain rfl := Option.some.inj H
      go_wp2
      go_ret
      exact ⟨by first | rfl | (simp [errW_none, errW_some] <;> rfl) | (simp [*, errW_none, errW_some] <;> rfl), by repeat (first | (with_reducible first | exact HB.out | apply below_alloc | apply pw_below_drewN | apply below_drew1 | refine below_set ?_ GE266.out) | exact HB.out)⟩
     ·rw [if_neg c12] at H
      have c12b0 : decide (t267 ≤ 0) = false := decide_eq_false c12
      clear c12
      obtain rfl := Option.some.inj H
      go_wp2
      go_ret
      exact ⟨by first | rfl | (simp [errW_none, errW_some] <;> rfl) | (simp [*, errW_none, errW_some] <;> rfl), by repeat (first | (with_reducible first | exact HB.out | apply below_alloc | apply pw_below_drewN | apply below_drew1 | refine below_set ?_ GE266.out) | exact HB.out)⟩
 ·rw [if_neg c3] at H
  have c3b0 : (t268 == 0) = false := beq_eq_false_iff_ne.mpr c3
  have c3b1 : (t268 != 0) = true := bne_iff_ne.mpr c3
  obtain rfl := Option.some.inj H
  go_enter Tryz.func33, Tryz.ntmps33
  go_wp2_with (first | ((with_reducible refine gate_dst (N := 1) rfl ?_); refine box_event ?hg (N := 1) ?hd (cs := #[.slice A0_0 l0_0.length c0_0, .int .i64 a0_1, .slice A0_2 l0_2.length c0_2]) (t := 32) ?hr ?_; (case hd => rfl); (case hg => rfl); (case hr => first | (go_simp; done) | (go_simp; rfl)); intro gb266 hg w13 hbox hb; have n0_ := Aside0.mk (below_step (by with_reducible repeat first | exact HB.out | apply below_alloc | apply pw_below_drewN | apply below_drew1) hb); have n1_ := Aside0.mk (hbox); have n2_ := Aside0.mk ((by rw [hg]; exact (below_size (by with_reducible repeat first | exact HB.out | apply below_alloc | apply pw_below_drewN | apply below_drew1)) : w.heap.size ≤ gb266)); have n3_ := Aside0.mk ((by rw [hg]; exact (below_size (by with_reducible repeat first | exact HB.out | apply below_alloc | apply pw_below_drewN | apply below_drew1)) : w.heap.size ≤ gb266)); clear HB; have HB := n0_; have BK266 := n1_; have GW266 := n2_; have GE266 := n3_; clear n0_ n1_ n2_ n3_; clear hb hbox hg; have hcz14_0 : w13.cell? ⟨gb266, 0, none⟩ = some (.slice A0_0 l0_0.length c0_0) := (blk_cell BK266.out 0).trans rfl; have hcz14_1 : w13.cell? ⟨gb266, 1, none⟩ = some (.int .i64 a0_1) := (blk_cell BK266.out 1).trans rfl; have hcz14_2 : w13.cell? ⟨gb266, 2, none⟩ = some (.slice A0_2 l0_2.length c0_2) := (blk_cell BK266.out 2).trans rfl; have hfz14_0 := blk_frozen BK266.out 0; have hfz14_1 := blk_frozen BK266.out 1; have hfz14_2 := blk_frozen BK266.out 2) | ((with_reducible refine gate_callee (f := 22) rfl ?_); refine goesL_ (some 10) rfl rfl Tryz.func22 (by kernel_rfl) rfl #[.slice A0_0 l0_0.length c0_0, .slice A0_2 l0_2.length c0_2] rfl (by (try simp only [List.map_toArray, List.map_cons, List.map_nil]); first | done | rfl | (simp only [List.length_drop, List.length_take]; rfl)) ?_; (with_reducible refine (monzo_Sign.calls k _ _ l0_0 _ _ l0_2 t267 t268 _ ?side1 ?side2 ?side3 ?side4 ?side5 A2.out).mono ?_); (case side1 => exact Glob.below HG.out (by repeat (first | (with_reducible first | exact HB.out | apply below_alloc | apply pw_below_drewN | apply below_drew1 | refine below_set ?_ GE266.out) | exact HB.out))); (case side2 => repeat (first | exact (Kd.C_below HR0_0.out HB.out) | (with_reducible refine Kd.C_alloc ?_ _) | (with_reducible refine Kd.C_drewN ?_ _) | (with_reducible refine Kd.C_drew ?_))); (case side3 => exact HC0_0.out); (case side4 => repeat (first | exact (Kd.C_below HR0_2.out HB.out) | (with_reducible refine Kd.C_alloc ?_ _) | (with_reducible refine Kd.C_drewN ?_ _) | (with_reducible refine Kd.C_drew ?_))); (case side5 => exact HC0_2.out); rintro e w15 ⟨rfl, hb⟩; refine ⟨_, rfl, ?_⟩; have n0_ := Aside0.mk (blk_below (g := gb266) (o := .cells #[.slice A0_0 l0_0.length c0_0, .int .i64 a0_1, .slice A0_2 l0_2.length c0_2] 32 (0, 0)) (by (with_reducible repeat (first | refine blk_drewN ?_ _ | refine blk_drew ?_ | refine blk_alloc ?_ _)); exact BK266.out) hb); have n1_ := Aside0.mk (below_step (by repeat (first | (with_reducible first | exact HB.out | apply below_alloc | apply pw_below_drewN | apply below_drew1 | refine below_set ?_ GE266.out) | exact HB.out)) hb); clear BK266; clear HB; have BK266 := n0_; have HB := n1_; clear n0_ n1_; (try clear hb); (try clear hb2); (try clear hk); (try clear hi)))
  go_ret
  exact ⟨by first | rfl | (simp [errW_none, errW_some] <;> rfl) | (simp [*, errW_none, errW_some] <;> rfl), by repeat (first | (with_reducible first | exact HB.out | apply below_alloc | apply pw_below_drewN | apply below_drew1 | refine below_set ?_ GE266.out) | exact HB.out)⟩
def comma_apart.l0 : Nat → Int → Int → Int → List Int → Int → List Int → Option (Bool)
 | 0, _, _, _, _, _, _ => none
 | k + 1, x8, x9, x301000, x301001, x302000, x302001 => if x9 < x8 then (if 0 ≤ x9 then (if x9 < (x301001.length : Int) then (if (rd x301001 x9) > 0 then (if x9 < (x302001.length : Int) then (if (rd x302001 x9) > 0 then (some false) else (comma_apart.l0 k x8 (wrap64 (x9 + 1)) x301000 x301001 x302000 x302001)) else (none)) else (comma_apart.l0 k x8 (wrap64 (x9 + 1)) x301000 x301001 x302000 x302001)) else (none)) else (none)) else (some true)
def comma_apart.f (k : Nat) (a0_0 : Int) (l0_1 : List Int) (a1_0 : Int) (l1_1 : List Int) : Option (Bool) := comma_apart.l0 k (l0_1.length : Int) 0 a0_0 l0_1 a1_0 l1_1
theorem comma_apart.mono_l : ∀ k, (∀ y0 y1 y2 y3 y4 y5, LeO (comma_apart.l0 k y0 y1 y2 y3 y4 y5) (comma_apart.l0 (k + 1) y0 y1 y2 y3 y4 y5))
 | 0 => fun _ _ _ _ _ _ r h => by simp [comma_apart.l0] at h
 | k + 1 => by
  have ih0 := comma_apart.mono_l k
  ·intro y0 y1 y2 y3 y4 y5
   unfold comma_apart.l0
   repeat' first
   | (with_reducible exact ih0 _ _ _ _ _ _)
   | (with_reducible exact LeO.refl _)
   | (with_reducible exact LeO.none _)
   | (with_reducible refine LeO.ite ?_ ?_)
   | (with_reducible refine LeO.bind ?_ (fun _ => ?_))
   | refine LeO.ite ?_ ?_
   | refine LeO.bind ?_ (fun _ => ?_)
theorem comma_apart.mono : ∀ a0 a1 a2 a3 k, LeO (comma_apart.f k a0 a1 a2 a3) (comma_apart.f (k + 1) a0 a1 a2 a3) := by
 intro a0 a1 a2 a3 k
 have ih0 := comma_apart.mono_l k
 unfold comma_apart.f
 repeat' first
   | (with_reducible exact ih0 _ _ _ _ _ _)
   | (with_reducible exact LeO.refl _)
   | (with_reducible exact LeO.none _)
   | (with_reducible refine LeO.ite ?_ ?_)
   | (with_reducible refine LeO.bind ?_ (fun _ => ?_))
   | refine LeO.ite ?_ ?_
   | refine LeO.bind ?_ (fun _ => ?_)
theorem comma_apart.calls (k : Nat) (a0_0 : Int) (A0_1 : Option Addr) (c0_1 : Nat) (l0_1 : List Int) (a1_0 : Int) (A1_1 : Option Addr) (c1_1 : Nat) (l1_1 : List Int) (r : Bool) (w : World) (hr0_1 : Kd.C (Kd.int .i64) w A0_1 l0_1.length l0_1) (hc0_1 : l0_1.length ≤ c0_1) (hr1_1 : Kd.C (Kd.int .i64) w A1_1 l1_1.length l1_1) (hc1_1 : l1_1.length ≤ c1_1) (h : comma_apart.f k a0_0 l0_1 a1_0 l1_1 = some r) :
  Calls Tryz.prog 42 #[.agg #[.int .i64 a0_0, .slice A0_1 l0_1.length c0_1], .agg #[.int .i64 a1_0, .slice A1_1 l1_1.length c1_1]] w fun e w' => e = .returned (.bool r) ∧ Below w.heap.size w w' := by
 have hu83 := Tryz.underlying83
 have HR0_1 := Aside0.mk hr0_1
 have HC0_1 := Aside0.mk hc0_1
 clear hr0_1 hc0_1
 have HR1_1 := Aside0.mk hr1_1
 have HC1_1 := Aside0.mk hc1_1
 clear hr1_1 hc1_1
 have HB := Aside0.mk (Below.refl w.heap.size w)
 have H : (comma_apart.l0 k (l0_1.length : Int) 0 a0_0 l0_1 a1_0 l1_1) = some r := h
 clear h
 have H' := Aside0.mk H
 clear H
 go_enter Tryz.func42, Tryz.ntmps42
 go_wp2_with (first | ((with_reducible refine gate_dst (N := 2) rfl ?_); refine box_event ?hg (N := 2) ?hd (cs := #[.int .i64 a0_0, .slice A0_1 l0_1.length c0_1]) (t := 83) ?hr ?_; (case hd => rfl); (case hg => rfl); (case hr => first | (go_simp; done) | (go_simp; rfl)); intro gb300 hg w3 hbox hb; have n0_ := Aside0.mk (below_step (by with_reducible repeat first | exact HB.out | apply below_alloc | apply pw_below_drewN | apply below_drew1) hb); have n1_ := Aside0.mk (hbox); have n2_ := Aside0.mk ((by rw [hg]; exact (below_size (by with_reducible repeat first | exact HB.out | apply below_alloc | apply pw_below_drewN | apply below_drew1)) : w.heap.size ≤ gb300)); have n3_ := Aside0.mk ((by rw [hg]; exact (below_size (by with_reducible repeat first | exact HB.out | apply below_alloc | apply pw_below_drewN | apply below_drew1)) : w.heap.size ≤ gb300)); clear HB; have HB := n0_; have BK300 := n1_; have GW300 := n2_; have GE300 := n3_; clear n0_ n1_ n2_ n3_; clear hb hbox hg) | ((with_reducible refine gate_dst (N := 3) rfl ?_); refine box_event ?hg (N := 3) ?hd (cs := #[.int .i64 a1_0, .slice A1_1 l1_1.length c1_1]) (t := 83) ?hr ?_; (case hd => rfl); (case hg => rfl); (case hr => first | (go_simp; done) | (go_simp; rfl)); intro gb301 hg w4 hbox hb; have n0_ := Aside0.mk (blk_below (g := gb300) (o := .cells #[.int .i64 a0_0, .slice A0_1 l0_1.length c0_1] 83 (0, 0)) (by (with_reducible repeat (first | refine blk_drewN ?_ _ | refine blk_drew ?_ | refine blk_alloc ?_ _)); exact BK300.out) hb); have n1_ := Aside0.mk (below_step (by repeat (first | (with_reducible first | exact HB.out | apply below_alloc | apply pw_below_drewN | apply below_drew1 | refine below_set ?_ GE300.out) | exact HB.out)) hb); have n2_ := Aside0.mk (hbox); have n3_ := Aside0.mk ((by rw [hg]; exact (below_size (by repeat (first | (with_reducible first | exact HB.out | apply below_alloc | apply pw_below_drewN | apply below_drew1 | refine below_set ?_ GE300.out) | exact HB.out))) : w.heap.size ≤ gb301)); have n4_ := Aside0.mk ((by rw [hg]; exact (below_size (by repeat (first | (with_reducible first | exact HB.out | apply below_alloc | apply pw_below_drewN | apply below_drew1 | refine below_set ?_ GE300.out) | exact HB.out))) : w.heap.size ≤ gb301)); have n5_ := Aside0.mk ((by rw [hg]; exact Nat.ne_of_lt (blk_lt (g := gb300) (o := .cells #[.int .i64 a0_0, .slice A0_1 l0_1.length c0_1] 83 (0, 0)) (by (with_reducible repeat (first | refine blk_drewN ?_ _ | refine blk_drew ?_ | refine blk_alloc ?_ _)); exact BK300.out)) : gb300 ≠ gb301)); have n6_ := Aside0.mk ((by rw [hg]; exact Nat.ne_of_gt (blk_lt (g := gb300) (o := .cells #[.int .i64 a0_0, .slice A0_1 l0_1.length c0_1] 83 (0, 0)) (by (with_reducible repeat (first | refine blk_drewN ?_ _ | refine blk_drew ?_ | refine blk_alloc ?_ _)); exact BK300.out)) : gb301 ≠ gb300)); clear BK300; clear HB; have BK300 := n0_; have HB := n1_; have BK301 := n2_; have GW301 := n3_; have GE301 := n4_; have NB300_301 := n5_; have NB301_300 := n6_; clear n0_ n1_ n2_ n3_ n4_ n5_ n6_; clear hb hbox hg; have hnb5 := NB300_301.out; have hnc5 := NB301_300.out; have hcz6_0 : w4.cell? ⟨gb300, 0, none⟩ = some (.int .i64 a0_0) := (blk_cell BK300.out 0).trans rfl; have hcz6_1 : w4.cell? ⟨gb300, 1, none⟩ = some (.slice A0_1 l0_1.length c0_1) := (blk_cell BK300.out 1).trans rfl; have hfz6_0 := blk_frozen BK300.out 0; have hfz6_1 := blk_frozen BK300.out 1))
 go_loopg [9] k (fun kq v9 w' => ∃ (x9_1 : Int), v9 = .int .i64 x9_1 ∧ Aside0 (comma_apart.l0 kq (l0_1.length : Int) x9_1 a0_0 l0_1 a1_0 l1_1 = some r) ∧ Aside0 (kq ≤ k) ∧ Aside0 (w'.heap[gb300]? = some (.cells #[.int .i64 a0_0, (.slice A0_1 l0_1.length c0_1)] 83 (0, 0))) ∧ Aside0 (w'.heap[gb301]? = some (.cells #[.int .i64 a1_0, (.slice A1_1 l1_1.length c1_1)] 83 (0, 0))) ∧ Aside0 (Below w.heap.size w w'))
 case atStart => exact ⟨(0), (by first | rfl | (simp; done) | (simp [*]; done)), H', ⟨Nat.le_refl _⟩, ⟨by (with_reducible repeat (first | refine blk_drewN ?_ _ | refine blk_drew ?_ | refine blk_alloc ?_ _)); exact BK300.out⟩, ⟨by (with_reducible repeat (first | refine blk_drewN ?_ _ | refine blk_drew ?_ | refine blk_alloc ?_ _)); exact BK301.out⟩, ⟨by repeat (first | (with_reducible first | exact HB.out | apply below_alloc | apply pw_below_drewN | apply below_drew1 | refine below_set ?_ GE300.out | refine below_set ?_ GE301.out) | exact HB.out)⟩⟩
 case round =>
  clear H'
  try clear c1
  try clear p2
  try clear c4
  try clear c5
  try clear hcz6_0
  try clear hcz6_1
  try clear hfz6_0
  try clear hfz6_1
  obtain ⟨x9_1, rfl, HA, HK1, BK300, BK301, HB⟩ := hrel
  cases gk with
  | zero => exact absurd HA.out (by simp [comma_apart.l0])
  | succ k1 =>
   have H := HA.out
   clear HA
   simp only [comma_apart.l0] at H
   by_cases c7 : x9_1 < (l0_1.length : Int)
   ·rw [if_pos c7] at H
    have c7b0 : decide (x9_1 < (l0_1.length : Int)) = true := decide_eq_true c7
    clear c7
    by_cases c8 : 0 ≤ x9_1
    ·rw [if_pos c8] at H
     have c8b0 : decide (0 ≤ x9_1) = true := decide_eq_true c8
     clear c8
     by_cases c9 : x9_1 < (l0_1.length : Int)
     ·rw [if_pos c9] at H
      have c9b0 : decide (x9_1 < (l0_1.length : Int)) = true := decide_eq_true c9
      clear c9
      by_cases c10 : (rd l0_1 x9_1) > 0
      ·rw [if_pos c10] at H
       have c10b0 : decide (0 < (rd l0_1 x9_1)) = true := decide_eq_true c10
       clear c10
       by_cases c11 : x9_1 < (l1_1.length : Int)
       ·rw [if_pos c11] at H
        have c11b0 : decide (x9_1 < (l1_1.length : Int)) = true := decide_eq_true c11
        clear c11
        by_cases c12 : (rd l1_1 x9_1) > 0
        ·rw [if_pos c12] at H
         have c12b0 : decide (0 < (rd l1_1 x9_1)) = true := decide_eq_true c12
         clear c12
         obtain rfl := Option.some.inj H
         have hnb13 := NB300_301.out
         have hnc13 := NB301_300.out
         have hcz14_0 : wr.cell? ⟨gb300, 0, none⟩ = some (.int .i64 a0_0) := (blk_cell BK300.out 0).trans rfl
         have hcz14_1 : wr.cell? ⟨gb300, 1, none⟩ = some (.slice A0_1 l0_1.length c0_1) := (blk_cell BK300.out 1).trans rfl
         have hfz14_0 := blk_frozen BK300.out 0
         have hfz14_1 := blk_frozen BK300.out 1
         have p302 : 0 ≤ (x9_1 : Int) := of_decide_eq_true (by with_reducible assumption)
         have q302 : x9_1 < (l0_1.length : Int) := of_decide_eq_true (by with_reducible assumption)
         obtain ⟨ad302, e302, hx302_0⟩ := Kd.at_int HR0_1.out x9_1 p302 q302
         cases e302
         replace hx302_0 := (HB.out.cell (World.block_lt_of_cell? w _ hx302_0)).trans hx302_0
         replace p302 := eq_true p302
         replace q302 := eq_true q302
         have hcz15_0 : wr.cell? ⟨gb301, 0, none⟩ = some (.int .i64 a1_0) := (blk_cell BK301.out 0).trans rfl
         have hcz15_1 : wr.cell? ⟨gb301, 1, none⟩ = some (.slice A1_1 l1_1.length c1_1) := (blk_cell BK301.out 1).trans rfl
         have hfz15_0 := blk_frozen BK301.out 0
         have hfz15_1 := blk_frozen BK301.out 1
         have p303 : 0 ≤ (x9_1 : Int) := of_decide_eq_true (by with_reducible assumption)
         have q303 : x9_1 < (l1_1.length : Int) := of_decide_eq_true (by with_reducible assumption)
         obtain ⟨ad303, e303, hx303_0⟩ := Kd.at_int HR1_1.out x9_1 p303 q303
         cases e303
         replace hx303_0 := (HB.out.cell (World.block_lt_of_cell? w _ hx303_0)).trans hx303_0
         replace p303 := eq_true p303
         replace q303 := eq_true q303
         go_wp2
         go_ret
         exact ⟨by first | rfl | (simp [errW_none, errW_some] <;> rfl) | (simp [*, errW_none, errW_some] <;> rfl), by repeat (first | (with_reducible first | exact HB.out | apply below_alloc | apply pw_below_drewN | apply below_drew1 | refine below_set ?_ GE300.out | refine below_set ?_ GE301.out) | exact HB.out)⟩
        ·rw [if_neg c12] at H
         have c12b0 : decide (0 < (rd l1_1 x9_1)) = false := decide_eq_false c12
         clear c12
         have H' := Aside0.mk H
         clear H
         have hnb16 := NB300_301.out
         have hnc16 := NB301_300.out
         have hcz17_0 : wr.cell? ⟨gb300, 0, none⟩ = some (.int .i64 a0_0) := (blk_cell BK300.out 0).trans rfl
         have hcz17_1 : wr.cell? ⟨gb300, 1, none⟩ = some (.slice A0_1 l0_1.length c0_1) := (blk_cell BK300.out 1).trans rfl
         have hfz17_0 := blk_frozen BK300.out 0
         have hfz17_1 := blk_frozen BK300.out 1
         have p302 : 0 ≤ (x9_1 : Int) := of_decide_eq_true (by with_reducible assumption)
         have q302 : x9_1 < (l0_1.length : Int) := of_decide_eq_true (by with_reducible assumption)
         obtain ⟨ad302, e302, hx302_0⟩ := Kd.at_int HR0_1.out x9_1 p302 q302
         cases e302
         replace hx302_0 := (HB.out.cell (World.block_lt_of_cell? w _ hx302_0)).trans hx302_0
         replace p302 := eq_true p302
         replace q302 := eq_true q302
         have hcz18_0 : wr.cell? ⟨gb301, 0, none⟩ = some (.int .i64 a1_0) := (blk_cell BK301.out 0).trans rfl
         have hcz18_1 : wr.cell? ⟨gb301, 1, none⟩ = some (.slice A1_1 l1_1.length c1_1) := (blk_cell BK301.out 1).trans rfl
         have hfz18_0 := blk_frozen BK301.out 0
         have hfz18_1 := blk_frozen BK301.out 1
         have p303 : 0 ≤ (x9_1 : Int) := of_decide_eq_true (by with_reducible assumption)
         have q303 : x9_1 < (l1_1.length : Int) := of_decide_eq_true (by with_reducible assumption)
         obtain ⟨ad303, e303, hx303_0⟩ := Kd.at_int HR1_1.out x9_1 p303 q303
         cases e303
         replace hx303_0 := (HB.out.cell (World.block_lt_of_cell? w _ hx303_0)).trans hx303_0
         replace p303 := eq_true p303
         replace q303 := eq_true q303
         go_wp2
         go_roundg k1
         case measure => have := HK1.out; omega
         case rel => exact ⟨(wrap64 (x9_1 + 1)), (by first | rfl | (simp; done) | (simp [*]; done)), H', ⟨by have := HK1.out; omega⟩, ⟨by (with_reducible repeat (first | refine blk_drewN ?_ _ | refine blk_drew ?_ | refine blk_alloc ?_ _)); exact BK300.out⟩, ⟨by (with_reducible repeat (first | refine blk_drewN ?_ _ | refine blk_drew ?_ | refine blk_alloc ?_ _)); exact BK301.out⟩, ⟨by repeat (first | (with_reducible first | exact HB.out | apply below_alloc | apply pw_below_drewN | apply below_drew1 | refine below_set ?_ GE300.out | refine below_set ?_ GE301.out) | exact HB.out)⟩⟩
       ·rw [if_neg c11] at H
        exact absurd H (by simp)
      ·rw [if_neg c10] at H
       have c10b0 : decide (0 < (rd l0_1 x9_1)) = false := decide_eq_false c10
       clear c10
       have H' := Aside0.mk H
       clear H
       have hnb19 := NB300_301.out
       have hnc19 := NB301_300.out
       have hcz20_0 : wr.cell? ⟨gb300, 0, none⟩ = some (.int .i64 a0_0) := (blk_cell BK300.out 0).trans rfl
       have hcz20_1 : wr.cell? ⟨gb300, 1, none⟩ = some (.slice A0_1 l0_1.length c0_1) := (blk_cell BK300.out 1).trans rfl
       have hfz20_0 := blk_frozen BK300.out 0
       have hfz20_1 := blk_frozen BK300.out 1
       have p302 : 0 ≤ (x9_1 : Int) := of_decide_eq_true (by with_reducible assumption)
       have q302 : x9_1 < (l0_1.length : Int) := of_decide_eq_true (by with_reducible assumption)
       obtain ⟨ad302, e302, hx302_0⟩ := Kd.at_int HR0_1.out x9_1 p302 q302
       cases e302
       replace hx302_0 := (HB.out.cell (World.block_lt_of_cell? w _ hx302_0)).trans hx302_0
       replace p302 := eq_true p302
       replace q302 := eq_true q302
       go_wp2
       go_roundg k1
       case measure => have := HK1.out; omega
       case rel => exact ⟨(wrap64 (x9_1 + 1)), (by first | rfl | (simp; done) | (simp [*]; done)), H', ⟨by have := HK1.out; omega⟩, ⟨by (with_reducible repeat (first | refine blk_drewN ?_ _ | refine blk_drew ?_ | refine blk_alloc ?_ _)); exact BK300.out⟩, ⟨by (with_reducible repeat (first | refine blk_drewN ?_ _ | refine blk_drew ?_ | refine blk_alloc ?_ _)); exact BK301.out⟩, ⟨by repeat (first | (with_reducible first | exact HB.out | apply below_alloc | apply pw_below_drewN | apply below_drew1 | refine below_set ?_ GE300.out | refine below_set ?_ GE301.out) | exact HB.out)⟩⟩
     ·rw [if_neg c9] at H
      exact absurd H (by simp)
    ·rw [if_neg c8] at H
     exact absurd H (by simp)
   ·rw [if_neg c7] at H
    have c7b0 : decide (x9_1 < (l0_1.length : Int)) = false := decide_eq_false c7
    clear c7
    obtain rfl := Option.some.inj H
    go_wp2
    go_ret
    exact ⟨by first | rfl | (simp [errW_none, errW_some] <;> rfl) | (simp [*, errW_none, errW_some] <;> rfl), by repeat (first | (with_reducible first | exact HB.out | apply below_alloc | apply pw_below_drewN | apply below_drew1 | refine below_set ?_ GE300.out | refine below_set ?_ GE301.out) | exact HB.out)⟩
mutual
def schismalaw12_Value.l0 : Nat → List Int → List Int → ByteArray → ByteArray → Int → Option (ByteArray × ByteArray)
 | 0, _, _, _, _, _ => none
 | k + 1, x0, x1, x4, x5, x6 => if x6 < (x0.length : Int) then (schismalaw12_Value.j1 k x0 x1 x4 x5 x6 (decide (x6 < (x1.length : Int)))) else (schismalaw12_Value.j1 k x0 x1 x4 x5 x6 false)
def schismalaw12_Value.j1 : Nat → List Int → List Int → ByteArray → ByteArray → Int → Bool → Option (ByteArray × ByteArray)
 | 0, _, _, _, _, _, _ => none
 | k + 1, x0, x1, x4, x5, x6, x18 => if x18 = true then (schismalaw12_Value.l1 k x0 x1 x4 x5 x6 0) else (some (x4, x5))
def schismalaw12_Value.l1 : Nat → List Int → List Int → ByteArray → ByteArray → Int → Int → Option (ByteArray × ByteArray)
 | 0, _, _, _, _, _, _ => none
 | k + 1, x0, x1, x4, x5, x6, x7 => if 0 ≤ x6 then (if x6 < (x1.length : Int) then (if x7 < (rd x1 x6) then (if x6 < (x0.length : Int) then ((g_whole_Of.f (rd x0 x6)).bind fun t203 => ((whole_Mul.f k x4 t203).bind fun t204 => (schismalaw12_Value.l1 k x0 x1 t204 x5 x6 (wrap64 (x7 + 1))))) else (none)) else (schismalaw12_Value.l2 k x0 x1 x4 x5 x6 0)) else (none)) else (none)
def schismalaw12_Value.l2 : Nat → List Int → List Int → ByteArray → ByteArray → Int → Int → Option (ByteArray × ByteArray)
 | 0, _, _, _, _, _, _ => none
 | k + 1, x0, x1, x4, x5, x6, x8 => if 0 ≤ x6 then (if x6 < (x1.length : Int) then (if x8 > (rd x1 x6) then (if x6 < (x0.length : Int) then ((g_whole_Of.f (rd x0 x6)).bind fun t207 => ((whole_Mul.f k x5 t207).bind fun t208 => (schismalaw12_Value.l2 k x0 x1 x4 t208 x6 (wrap64 (x8 - 1))))) else (none)) else (schismalaw12_Value.l0 k x0 x1 x4 x5 (wrap64 (x6 + 1)))) else (none)) else (none)
end
def schismalaw12_Value.f (k : Nat) (l0 : List Int) (l1 : List Int) : Option (ByteArray × ByteArray) := schismalaw12_Value.l0 k l0 l1 (⟨#[49]⟩ : ByteArray) (⟨#[49]⟩ : ByteArray) 0
theorem schismalaw12_Value.mono_l : ∀ k, (∀ y0 y1 y2 y3 y4, LeO (schismalaw12_Value.l0 k y0 y1 y2 y3 y4) (schismalaw12_Value.l0 (k + 1) y0 y1 y2 y3 y4)) ∧ (∀ y0 y1 y2 y3 y4 y5, LeO (schismalaw12_Value.j1 k y0 y1 y2 y3 y4 y5) (schismalaw12_Value.j1 (k + 1) y0 y1 y2 y3 y4 y5)) ∧ (∀ y0 y1 y2 y3 y4 y5, LeO (schismalaw12_Value.l1 k y0 y1 y2 y3 y4 y5) (schismalaw12_Value.l1 (k + 1) y0 y1 y2 y3 y4 y5)) ∧ (∀ y0 y1 y2 y3 y4 y5, LeO (schismalaw12_Value.l2 k y0 y1 y2 y3 y4 y5) (schismalaw12_Value.l2 (k + 1) y0 y1 y2 y3 y4 y5))
 | 0 => ⟨fun _ _ _ _ _ r h => by simp [schismalaw12_Value.l0] at h, fun _ _ _ _ _ _ r h => by simp [schismalaw12_Value.j1] at h, fun _ _ _ _ _ _ r h => by simp [schismalaw12_Value.l1] at h, fun _ _ _ _ _ _ r h => by simp [schismalaw12_Value.l2] at h⟩
 | k + 1 => by
  obtain ⟨ih0, ih1, ih2, ih3⟩ := schismalaw12_Value.mono_l k
  refine ⟨?_, ?_, ?_, ?_⟩
  ·intro y0 y1 y2 y3 y4
   unfold schismalaw12_Value.l0
   repeat' first
   | (with_reducible exact ih0 _ _ _ _ _)
   | (with_reducible exact ih1 _ _ _ _ _ _)
   | (with_reducible exact ih2 _ _ _ _ _ _)
   | (with_reducible exact ih3 _ _ _ _ _ _)
   | with_reducible apply whole_Mul.mono
   | (with_reducible exact LeO.refl _)
   | (with_reducible exact LeO.none _)
   | (with_reducible refine LeO.ite ?_ ?_)
   | (with_reducible refine LeO.bind ?_ (fun _ => ?_))
   | refine LeO.ite ?_ ?_
   | refine LeO.bind ?_ (fun _ => ?_)
  ·intro y0 y1 y2 y3 y4 y5
   unfold schismalaw12_Value.j1
   repeat' first
   | (with_reducible exact ih0 _ _ _ _ _)
   | (with_reducible exact ih1 _ _ _ _ _ _)
   | (with_reducible exact ih2 _ _ _ _ _ _)
   | (with_reducible exact ih3 _ _ _ _ _ _)
   | with_reducible apply whole_Mul.mono
   | (with_reducible exact LeO.refl _)
   | (with_reducible exact LeO.none _)
   | (with_reducible refine LeO.ite ?_ ?_)
   | (with_reducible refine LeO.bind ?_ (fun _ => ?_))
   | refine LeO.ite ?_ ?_
   | refine LeO.bind ?_ (fun _ => ?_)
  ·intro y0 y1 y2 y3 y4 y5
   unfold schismalaw12_Value.l1
   repeat' first
   | (with_reducible exact ih0 _ _ _ _ _)
   | (with_reducible exact ih1 _ _ _ _ _ _)
   | (with_reducible exact ih2 _ _ _ _ _ _)
   | (with_reducible exact ih3 _ _ _ _ _ _)
   | with_reducible apply whole_Mul.mono
   | (with_reducible exact LeO.refl _)
   | (with_reducible exact LeO.none _)
   | (with_reducible refine LeO.ite ?_ ?_)
   | (with_reducible refine LeO.bind ?_ (fun _ => ?_))
   | refine LeO.ite ?_ ?_
   | refine LeO.bind ?_ (fun _ => ?_)
  ·intro y0 y1 y2 y3 y4 y5
   unfold schismalaw12_Value.l2
   repeat' first
   | (with_reducible exact ih0 _ _ _ _ _)
   | (with_reducible exact ih1 _ _ _ _ _ _)
   | (with_reducible exact ih2 _ _ _ _ _ _)
   | (with_reducible exact ih3 _ _ _ _ _ _)
   | with_reducible apply whole_Mul.mono
   | (with_reducible exact LeO.refl _)
   | (with_reducible exact LeO.none _)
   | (with_reducible refine LeO.ite ?_ ?_)
   | (with_reducible refine LeO.bind ?_ (fun _ => ?_))
   | refine LeO.ite ?_ ?_
   | refine LeO.bind ?_ (fun _ => ?_)
theorem schismalaw12_Value.mono : ∀ a0 a1 k, LeO (schismalaw12_Value.f k a0 a1) (schismalaw12_Value.f (k + 1) a0 a1) := by
 intro a0 a1 k
 obtain ⟨ih0, ih1, ih2, ih3⟩ := schismalaw12_Value.mono_l k
 unfold schismalaw12_Value.f
 repeat' first
   | (with_reducible exact ih0 _ _ _ _ _)
   | (with_reducible exact ih1 _ _ _ _ _ _)
   | (with_reducible exact ih2 _ _ _ _ _ _)
   | (with_reducible exact ih3 _ _ _ _ _ _)
   | with_reducible apply whole_Mul.mono
   | (with_reducible exact LeO.refl _)
   | (with_reducible exact LeO.none _)
   | (with_reducible refine LeO.ite ?_ ?_)
   | (with_reducible refine LeO.bind ?_ (fun _ => ?_))
   | refine LeO.ite ?_ ?_
   | refine LeO.bind ?_ (fun _ => ?_)
theorem schismalaw12_Value.calls (k : Nat) (A0 : Option Addr) (c0 : Nat) (l0 : List Int) (A1 : Option Addr) (c1 : Nat) (l1 : List Int) (r1 : ByteArray) (r2 : ByteArray) (w : World) (hG : Glob w) (hr0 : Kd.C (Kd.int .i64) w A0 l0.length l0) (hc0 : l0.length ≤ c0) (hr1 : Kd.C (Kd.int .i64) w A1 l1.length l1) (hc1 : l1.length ≤ c1) (h : schismalaw12_Value.f k l0 l1 = some (r1, r2)) :
  Calls Tryz.prog 36 #[.slice A0 l0.length c0, .slice A1 l1.length c1] w fun e w' => e = .returned (.tuple #[.string r1, .string r2]) ∧ Below w.heap.size w w' := by
 have HG := Aside0.mk hG
 clear hG
 have HR0 := Aside0.mk hr0
 have HC0 := Aside0.mk hc0
 clear hr0 hc0
 have HR1 := Aside0.mk hr1
 have HC1 := Aside0.mk hc1
 clear hr1 hc1
 have HB := Aside0.mk (Below.refl w.heap.size w)
 have H : (schismalaw12_Value.l0 k l0 l1 (⟨#[49]⟩ : ByteArray) (⟨#[49]⟩ : ByteArray) 0) = some (r1, r2) := h
 clear h
 have H' := Aside0.mk H
 clear H
 go_enter Tryz.func36, Tryz.ntmps36
 go_wp2
 go_loopg [4, 5, 6] k (fun kq v4 v5 v6 w' => ∃ (x4_1 : ByteArray) (x5_1 : ByteArray) (x6_1 : Int), v4 = .string x4_1 ∧ v5 = .string x5_1 ∧ v6 = .int .i64 x6_1 ∧ Aside0 (schismalaw12_Value.l0 kq l0 l1 x4_1 x5_1 x6_1 = some (r1, r2)) ∧ Aside0 (kq ≤ k) ∧ Aside0 (Below w.heap.size w w'))
 case atStart => exact ⟨((⟨#[49]⟩ : ByteArray)), ((⟨#[49]⟩ : ByteArray)), (0), (by first | rfl | (simp; done) | (simp [*]; done)), (by first | rfl | (simp; done) | (simp [*]; done)), (by first | rfl | (simp; done) | (simp [*]; done)), H', ⟨Nat.le_refl _⟩, ⟨by with_reducible repeat first | exact HB.out | apply below_alloc | apply pw_below_drewN | apply below_drew1⟩⟩
 case round =>
  clear H'
  try clear c1
  try clear p2
  obtain ⟨x4_1, x5_1, x6_1, rfl, rfl, rfl, HA, HK1, HB⟩ := hrel
  cases gk with
  | zero => exact absurd HA.out (by simp [schismalaw12_Value.l0])
  | succ k1 =>
   have H := HA.out
   clear HA
   simp only [schismalaw12_Value.l0] at H
   have HC3 := Aside0.mk H
   clear H
   go_upto_region 3 with (fail)
   go_cut [18] (fun v18 wc => ∃ (kq : Nat) (x18_2 : Bool), v18 = .bool x18_2 ∧ Aside0 (schismalaw12_Value.j1 kq l0 l1 x4_1 x5_1 x6_1 x18_2 = some (r1, r2)) ∧ Aside0 (kq ≤ k1) ∧ Aside0 (Below w.heap.size w wc))
   case first =>
    have H := HC3.out
    clear HC3
    by_cases c4 : x6_1 < (l0.length : Int)
    ·rw [if_pos c4] at H
     have c4b0 : decide (x6_1 < (l0.length : Int)) = true := decide_eq_true c4
     clear c4
     (first | rw [c4b0] | (simp only [i64_w, i32_w]; rw [c4b0]) | skip)
     have H' := Aside0.mk H
     clear H
     go_wp2
     go_meet
     case rel => exact ⟨_, (decide (x6_1 < (l1.length : Int))), (by first | rfl | (simp; done) | (simp [*]; done)), H', ⟨by have := HK1.out; first | omega | exact Nat.le_refl _⟩, ⟨by with_reducible repeat first | exact HB.out | apply below_alloc | apply pw_below_drewN | apply below_drew1⟩⟩
    ·rw [if_neg c4] at H
     have c4b0 : decide (x6_1 < (l0.length : Int)) = false := decide_eq_false c4
     clear c4
     (first | rw [c4b0] | (simp only [i64_w, i32_w]; rw [c4b0]) | skip)
     have H' := Aside0.mk H
     clear H
     go_wp2
     go_meet
     case rel => exact ⟨_, (false), (by first | rfl | (simp; done) | (simp [*]; done)), H', ⟨by have := HK1.out; first | omega | exact Nat.le_refl _⟩, ⟨by with_reducible repeat first | exact HB.out | apply below_alloc | apply pw_below_drewN | apply below_drew1⟩⟩
   case rest =>
    clear HC3
    try clear c1
    try clear p2
    try clear c3
    try clear c4
    try clear c4b0
    try clear p2
    obtain ⟨kq, x18_2, rfl, HA, HJ2, HB⟩ := hcut
    cases kq with
    | zero => exact absurd HA.out (by simp [schismalaw12_Value.j1])
    | succ kj2 =>
     have H := HA.out
     clear HA
     simp only [schismalaw12_Value.j1] at H
     by_cases c5 : x18_2 = true
     ·subst c5
      have H1 : (schismalaw12_Value.l1 kj2 l0 l1 x4_1 x5_1 x6_1 0) = some (r1, r2) := by rw [if_pos rfl] at H; exact H
      clear H
      have H := H1
      clear H1
      have H' := Aside0.mk H
      clear H
      go_wp2
      go_loopg [4, 7] kj2 (fun kq v4 v7 w' => ∃ (x4_3 : ByteArray) (x7_3 : Int), v4 = .string x4_3 ∧ v7 = .int .i64 x7_3 ∧ Aside0 (schismalaw12_Value.l1 kq l0 l1 x4_3 x5_1 x6_1 x7_3 = some (r1, r2)) ∧ Aside0 (kq ≤ kj2) ∧ Aside0 (Below w.heap.size w w'))
      case atStart => exact ⟨(x4_1), (0), (by first | rfl | (simp; done) | (simp [*]; done)), (by first | rfl | (simp; done) | (simp [*]; done)), H', ⟨Nat.le_refl _⟩, ⟨by with_reducible repeat first | exact HB.out | apply below_alloc | apply pw_below_drewN | apply below_drew1⟩⟩
      case round =>
       clear H'
       try clear c1
       try clear p2
       try clear c3
       try clear c4
       try clear c4b0
       try clear c5
       try clear p2
       obtain ⟨x4_3, x7_3, rfl, rfl, HA, HK3, HB⟩ := hrel
       cases gk with
       | zero => exact absurd HA.out (by simp [schismalaw12_Value.l1])
       | succ k3 =>
        have H := HA.out
        clear HA
        simp only [schismalaw12_Value.l1] at H
        by_cases c6 : 0 ≤ x6_1
        ·rw [if_pos c6] at H
         have c6b0 : decide (0 ≤ x6_1) = true := decide_eq_true c6
         clear c6
         by_cases c7 : x6_1 < (l1.length : Int)
         ·rw [if_pos c7] at H
          have c7b0 : decide (x6_1 < (l1.length : Int)) = true := decide_eq_true c7
          clear c7
          by_cases c8 : x7_3 < (rd l1 x6_1)
          ·rw [if_pos c8] at H
           have c8b0 : decide (x7_3 < (rd l1 x6_1)) = true := decide_eq_true c8
           clear c8
           by_cases c9 : x6_1 < (l0.length : Int)
           ·rw [if_pos c9] at H
            have c9b0 : decide (x6_1 < (l0.length : Int)) = true := decide_eq_true c9
            clear c9
            replace H := Option.bind_eq_some_iff.mp H
            obtain ⟨t203, A100, H⟩ := H
            replace H : ((whole_Mul.f k3 x4_3 t203).bind fun t204 => (schismalaw12_Value.l1 k3 l0 l1 t204 x5_1 x6_1 (wrap64 (x7_3 + 1)))) = some (r1, r2) := H
            have A10 := Aside0.mk A100
            clear A100
            replace H := Option.bind_eq_some_iff.mp H
            obtain ⟨t204, A110, H⟩ := H
            replace H : (schismalaw12_Value.l1 k3 l0 l1 t204 x5_1 x6_1 (wrap64 (x7_3 + 1))) = some (r1, r2) := H
            have A11 := Aside0.mk A110
            clear A110
            have H' := Aside0.mk H
            clear H
            have p201 : 0 ≤ (x6_1 : Int) := of_decide_eq_true (by with_reducible assumption)
            have q201 : x6_1 < (l1.length : Int) := of_decide_eq_true (by with_reducible assumption)
            obtain ⟨ad201, e201, hx201_0⟩ := Kd.at_int HR1.out x6_1 p201 q201
            cases e201
            replace hx201_0 := (HB.out.cell (World.block_lt_of_cell? w _ hx201_0)).trans hx201_0
            replace p201 := eq_true p201
            replace q201 := eq_true q201
            have p202 : 0 ≤ (x6_1 : Int) := of_decide_eq_true (by with_reducible assumption)
            have q202 : x6_1 < (l0.length : Int) := of_decide_eq_true (by with_reducible assumption)
            obtain ⟨ad202, e202, hx202_0⟩ := Kd.at_int HR0.out x6_1 p202 q202
            cases e202
            replace hx202_0 := (HB.out.cell (World.block_lt_of_cell? w _ hx202_0)).trans hx202_0
            replace p202 := eq_true p202
            replace q202 := eq_true q202
            go_wp2_with (first | ((with_reducible refine gate_callee (f := 41) rfl ?_); refine goesL_ (some 34) rfl rfl Tryz.func41 (by kernel_rfl) rfl #[.int .i64 (rd l0 x6_1)] rfl (by (try simp only [List.map_toArray, List.map_cons, List.map_nil]); first | done | rfl | (simp only [List.length_drop, List.length_take]; rfl)) ?_; (with_reducible refine (g_whole_Of.calls (rd l0 x6_1) t203 _ ?side1 A10.out).mono ?_); (case side1 => exact Glob.below HG.out (by with_reducible repeat first | exact HB.out | apply below_alloc | apply pw_below_drewN | apply below_drew1)); rintro e w12 ⟨rfl, hb⟩; refine ⟨_, rfl, ?_⟩; have n0_ := Aside0.mk (below_step (by with_reducible repeat first | exact HB.out | apply below_alloc | apply pw_below_drewN | apply below_drew1) hb); clear HB; have HB := n0_; clear n0_; (try clear hb); (try clear hb2); (try clear hk); (try clear hi)) | ((with_reducible refine gate_callee (f := 40) rfl ?_); refine goesL_ (some 35) rfl rfl Tryz.func40 (by kernel_rfl) rfl #[.string x4_3, .string t203] rfl (by (try simp only [List.map_toArray, List.map_cons, List.map_nil]); first | done | rfl | (simp only [List.length_drop, List.length_take]; rfl)) ?_; (with_reducible refine (whole_Mul.calls k3 x4_3 t203 t204 _ ?side1 A11.out).mono ?_); (case side1 => exact Glob.below HG.out (by with_reducible repeat first | exact HB.out | apply below_alloc | apply pw_below_drewN | apply below_drew1)); rintro e w13 ⟨rfl, hb⟩; refine ⟨_, rfl, ?_⟩; have n0_ := Aside0.mk (below_step (by with_reducible repeat first | exact HB.out | apply below_alloc | apply pw_below_drewN | apply below_drew1) hb); clear HB; have HB := n0_; clear n0_; (try clear hb); (try clear hb2); (try clear hk); (try clear hi)))
            go_roundg k3
            case measure => have := HK1.out; have := HJ2.out; have := HK3.out; omega
            case rel => exact ⟨(t204), (wrap64 (x7_3 + 1)), (by first | rfl | (simp; done) | (simp [*]; done)), (by first | rfl | (simp; done) | (simp [*]; done)), H', ⟨by have := HK1.out; have := HJ2.out; have := HK3.out; omega⟩, ⟨by with_reducible repeat first | exact HB.out | apply below_alloc | apply pw_below_drewN | apply below_drew1⟩⟩
           ·rw [if_neg c9] at H
            exact absurd H (by simp)
          ·rw [if_neg c8] at H
           have c8b0 : decide (x7_3 < (rd l1 x6_1)) = false := decide_eq_false c8
           clear c8
           have H' := Aside0.mk H
           clear H
           have p201 : 0 ≤ (x6_1 : Int) := of_decide_eq_true (by with_reducible assumption)
           have q201 : x6_1 < (l1.length : Int) := of_decide_eq_true (by with_reducible assumption)
           obtain ⟨ad201, e201, hx201_0⟩ := Kd.at_int HR1.out x6_1 p201 q201
           cases e201
           replace hx201_0 := (HB.out.cell (World.block_lt_of_cell? w _ hx201_0)).trans hx201_0
           replace p201 := eq_true p201
           replace q201 := eq_true q201
           go_wp2
           go_loopg [5, 8] k3 (fun kq v5 v8 w' => ∃ (x5_4 : ByteArray) (x8_4 : Int), v5 = .string x5_4 ∧ v8 = .int .i64 x8_4 ∧ Aside0 (schismalaw12_Value.l2 kq l0 l1 x4_3 x5_4 x6_1 x8_4 = some (r1, r2)) ∧ Aside0 (kq ≤ k3) ∧ Aside0 (Below w.heap.size w w'))
           case atStart => exact ⟨(x5_1), (0), (by first | rfl | (simp; done) | (simp [*]; done)), (by first | rfl | (simp; done) | (simp [*]; done)), H', ⟨Nat.le_refl _⟩, ⟨by with_reducible repeat first | exact HB.out | apply below_alloc | apply pw_below_drewN | apply below_drew1⟩⟩
           case round =>
            clear H'
            try clear c1
            try clear p2
            try clear q2
            try clear hx2
            try clear c3
            try clear c4
            try clear c4b0
            try clear c5
            try clear c6
            try clear c6b0
            try clear p6
            try clear c7
            try clear c7b0
            try clear c8
            try clear c8b0
            try clear c9
            try clear c9b0
            try clear hx201_0
            try clear hx202_0
            try clear p2
            try clear p201
            try clear p202
            try clear q201
            try clear q202
            obtain ⟨x5_4, x8_4, rfl, rfl, HA, HK4, HB⟩ := hrel
            cases gk with
            | zero => exact absurd HA.out (by simp [schismalaw12_Value.l2])
            | succ k4 =>
             have H := HA.out
             clear HA
             simp only [schismalaw12_Value.l2] at H
             by_cases c14 : 0 ≤ x6_1
             ·rw [if_pos c14] at H
              have c14b0 : decide (0 ≤ x6_1) = true := decide_eq_true c14
              clear c14
              by_cases c15 : x6_1 < (l1.length : Int)
              ·rw [if_pos c15] at H
               have c15b0 : decide (x6_1 < (l1.length : Int)) = true := decide_eq_true c15
               clear c15
               by_cases c16 : x8_4 > (rd l1 x6_1)
               ·rw [if_pos c16] at H
                have c16b0 : decide ((rd l1 x6_1) < x8_4) = true := decide_eq_true c16
                clear c16
                by_cases c17 : x6_1 < (l0.length : Int)
                ·rw [if_pos c17] at H
                 have c17b0 : decide (x6_1 < (l0.length : Int)) = true := decide_eq_true c17
                 clear c17
                 replace H := Option.bind_eq_some_iff.mp H
                 obtain ⟨t207, A180, H⟩ := H
                 replace H : ((whole_Mul.f k4 x5_4 t207).bind fun t208 => (schismalaw12_Value.l2 k4 l0 l1 x4_3 t208 x6_1 (wrap64 (x8_4 - 1)))) = some (r1, r2) := H
                 have A18 := Aside0.mk A180
                 clear A180
                 replace H := Option.bind_eq_some_iff.mp H
                 obtain ⟨t208, A190, H⟩ := H
                 replace H : (schismalaw12_Value.l2 k4 l0 l1 x4_3 t208 x6_1 (wrap64 (x8_4 - 1))) = some (r1, r2) := H
                 have A19 := Aside0.mk A190
                 clear A190
                 have H' := Aside0.mk H
                 clear H
                 have p205 : 0 ≤ (x6_1 : Int) := of_decide_eq_true (by with_reducible assumption)
                 have q205 : x6_1 < (l1.length : Int) := of_decide_eq_true (by with_reducible assumption)
                 obtain ⟨ad205, e205, hx205_0⟩ := Kd.at_int HR1.out x6_1 p205 q205
                 obtain rfl : ad201 = ad205 := (by injection e205)
                 replace hx205_0 := (HB.out.cell (World.block_lt_of_cell? w _ hx205_0)).trans hx205_0
                 replace p205 := eq_true p205
                 replace q205 := eq_true q205
                 have p206 : 0 ≤ (x6_1 : Int) := of_decide_eq_true (by with_reducible assumption)
                 have q206 : x6_1 < (l0.length : Int) := of_decide_eq_true (by with_reducible assumption)
                 obtain ⟨ad206, e206, hx206_0⟩ := Kd.at_int HR0.out x6_1 p206 q206
                 cases e206
                 replace hx206_0 := (HB.out.cell (World.block_lt_of_cell? w _ hx206_0)).trans hx206_0
                 replace p206 := eq_true p206
                 replace q206 := eq_true q206
                 go_wp2_with (first | ((with_reducible refine gate_callee (f := 41) rfl ?_); refine goesL_ (some 49) rfl rfl Tryz.func41 (by kernel_rfl) rfl #[.int .i64 (rd l0 x6_1)] rfl (by (try simp only [List.map_toArray, List.map_cons, List.map_nil]); first | done | rfl | (simp only [List.length_drop, List.length_take]; rfl)) ?_; (with_reducible refine (g_whole_Of.calls (rd l0 x6_1) t207 _ ?side1 A18.out).mono ?_); (case side1 => exact Glob.below HG.out (by with_reducible repeat first | exact HB.out | apply below_alloc | apply pw_below_drewN | apply below_drew1)); rintro e w20 ⟨rfl, hb⟩; refine ⟨_, rfl, ?_⟩; have n0_ := Aside0.mk (below_step (by with_reducible repeat first | exact HB.out | apply below_alloc | apply pw_below_drewN | apply below_drew1) hb); clear HB; have HB := n0_; clear n0_; (try clear hb); (try clear hb2); (try clear hk); (try clear hi)) | ((with_reducible refine gate_callee (f := 40) rfl ?_); refine goesL_ (some 50) rfl rfl Tryz.func40 (by kernel_rfl) rfl #[.string x5_4, .string t207] rfl (by (try simp only [List.map_toArray, List.map_cons, List.map_nil]); first | done | rfl | (simp only [List.length_drop, List.length_take]; rfl)) ?_; (with_reducible refine (whole_Mul.calls k4 x5_4 t207 t208 _ ?side1 A19.out).mono ?_); (case side1 => exact Glob.below HG.out (by with_reducible repeat first | exact HB.out | apply below_alloc | apply pw_below_drewN | apply below_drew1)); rintro e w21 ⟨rfl, hb⟩; refine ⟨_, rfl, ?_⟩; have n0_ := Aside0.mk (below_step (by with_reducible repeat first | exact HB.out | apply below_alloc | apply pw_below_drewN | apply below_drew1) hb); clear HB; have HB := n0_; clear n0_; (try clear hb); (try clear hb2); (try clear hk); (try clear hi)))
                 go_roundg k4
                 case measure => have := HK1.out; have := HJ2.out; have := HK3.out; have := HK4.out; omega
                 case rel => exact ⟨(t208), (wrap64 (x8_4 - 1)), (by first | rfl | (simp; done) | (simp [*]; done)), (by first | rfl | (simp; done) | (simp [*]; done)), H', ⟨by have := HK1.out; have := HJ2.out; have := HK3.out; have := HK4.out; omega⟩, ⟨by with_reducible repeat first | exact HB.out | apply below_alloc | apply pw_below_drewN | apply below_drew1⟩⟩
                ·rw [if_neg c17] at H
                 exact absurd H (by simp)
               ·rw [if_neg c16] at H
                have c16b0 : decide ((rd l1 x6_1) < x8_4) = false := decide_eq_false c16
                clear c16
                have H' := Aside0.mk H
                clear H
                have p205 : 0 ≤ (x6_1 : Int) := of_decide_eq_true (by with_reducible assumption)
                have q205 : x6_1 < (l1.length : Int) := of_decide_eq_true (by with_reducible assumption)
                obtain ⟨ad205, e205, hx205_0⟩ := Kd.at_int HR1.out x6_1 p205 q205
                obtain rfl : ad201 = ad205 := (by injection e205)
                replace hx205_0 := (HB.out.cell (World.block_lt_of_cell? w _ hx205_0)).trans hx205_0
                replace p205 := eq_true p205
                replace q205 := eq_true q205
                go_wp2
                go_roundg k4
                case measure => have := HK1.out; have := HJ2.out; have := HK3.out; have := HK4.out; omega
                case rel => exact ⟨(x4_3), (x5_4), (wrap64 (x6_1 + 1)), (by first | rfl | (simp; done) | (simp [*]; done)), (by first | rfl | (simp; done) | (simp [*]; done)), (by first | rfl | (simp; done) | (simp [*]; done)), H', ⟨by have := HK1.out; have := HJ2.out; have := HK3.out; have := HK4.out; omega⟩, ⟨by with_reducible repeat first | exact HB.out | apply below_alloc | apply pw_below_drewN | apply below_drew1⟩⟩
              ·rw [if_neg c15] at H
               exact absurd H (by simp)
             ·rw [if_neg c14] at H
              exact absurd H (by simp)
         ·rw [if_neg c7] at H
          exact absurd H (by simp)
        ·rw [if_neg c6] at H
         exact absurd H (by simp)
     ·replace c5 := Bool.eq_false_iff.mpr c5
      subst c5
      have H1 : (some (x4_1, x5_1)) = some (r1, r2) := by rw [if_neg (show ¬ (false = true) by decide)] at H; exact H
      clear H
      have H := H1
      clear H1
      simp only [Option.some.injEq, Prod.mk.injEq] at H
      obtain ⟨rfl, rfl⟩ := H
      go_wp2
      go_ret2
      exact ⟨by first | rfl | (simp [errW_none, errW_some] <;> rfl) | (simp [*, errW_none, errW_some] <;> rfl), by with_reducible repeat first | exact HB.out | apply below_alloc | apply pw_below_drewN | apply below_drew1⟩
def schismalaw16_gcd.l0 : Nat → Int → Int → Option (Int)
 | 0, _, _ => none
 | k + 1, x0, x1 => if x1 = 0 then (some x0) else (schismalaw16_gcd.l0 k x1 (Int.tmod x0 x1))
def schismalaw16_gcd.f (k : Nat) (a0 : Int) (a1 : Int) : Option (Int) := schismalaw16_gcd.l0 k a0 a1
theorem schismalaw16_gcd.mono_l : ∀ k, (∀ y0 y1, LeO (schismalaw16_gcd.l0 k y0 y1) (schismalaw16_gcd.l0 (k + 1) y0 y1))
 | 0 => fun _ _ r h => by simp [schismalaw16_gcd.l0] at h
 | k + 1 => by
  have ih0 := schismalaw16_gcd.mono_l k
  ·intro y0 y1
   unfold schismalaw16_gcd.l0
   repeat' first
   | (with_reducible exact ih0 _ _)
   | (with_reducible exact LeO.refl _)
   | (with_reducible exact LeO.none _)
   | (with_reducible refine LeO.ite ?_ ?_)
   | (with_reducible refine LeO.bind ?_ (fun _ => ?_))
   | refine LeO.ite ?_ ?_
   | refine LeO.bind ?_ (fun _ => ?_)
theorem schismalaw16_gcd.mono : ∀ a0 a1 k, LeO (schismalaw16_gcd.f k a0 a1) (schismalaw16_gcd.f (k + 1) a0 a1) := by
 intro a0 a1 k
 have ih0 := schismalaw16_gcd.mono_l k
 unfold schismalaw16_gcd.f
 repeat' first
   | (with_reducible exact ih0 _ _)
   | (with_reducible exact LeO.refl _)
   | (with_reducible exact LeO.none _)
   | (with_reducible refine LeO.ite ?_ ?_)
   | (with_reducible refine LeO.bind ?_ (fun _ => ?_))
   | refine LeO.ite ?_ ?_
   | refine LeO.bind ?_ (fun _ => ?_)
theorem schismalaw16_gcd.calls (k : Nat) (a0 : Int) (a1 : Int) (r : Int) (w : World) (h : schismalaw16_gcd.f k a0 a1 = some r) :
  Calls Tryz.prog 46 #[.int .i64 a0, .int .i64 a1] w fun e w' => e = .returned (.int .i64 r) ∧ Drawn0 w w' := by
 have H : (schismalaw16_gcd.l0 k a0 a1) = some r := h
 clear h
 have H' := Aside0.mk H
 clear H
 go_enter Tryz.func46, Tryz.ntmps46
 go_wp2
 repeat (go_quiet (fail); try go_wp2)
 go_loopg [0, 1] k (fun kq v0 v1 w' => ∃ (x0_1 : Int) (x1_1 : Int), v0 = .int .i64 x0_1 ∧ v1 = .int .i64 x1_1 ∧ Aside0 (schismalaw16_gcd.l0 kq x0_1 x1_1 = some r) ∧ Aside0 (kq ≤ k) ∧ Drawn0 w w')
 case atStart => exact ⟨(a0), (a1), (by first | rfl | (simp; done) | (simp [*]; done)), (by first | rfl | (simp; done) | (simp [*]; done)), H', ⟨Nat.le_refl _⟩, by repeat (first | exact Drawn0.refl _ | apply Drawn0.step)⟩
 case round =>
  clear H'
  try clear p2
  obtain ⟨x0_1, x1_1, rfl, rfl, HA, HK1, ⟨m1, rfl⟩⟩ := hrel
  cases gk with
  | zero => exact absurd HA.out (by simp [schismalaw16_gcd.l0])
  | succ k1 =>
   have H := HA.out
   clear HA
   simp only [schismalaw16_gcd.l0] at H
   by_cases c3 : x1_1 = 0
   ·rw [if_pos c3] at H
    have c3b0 : (x1_1 == 0) = true := beq_iff_eq.mpr c3
    have c3b1 : (x1_1 != 0) = false := bne_eq_false_iff_eq.mpr c3
    clear c3
    obtain rfl := Option.some.inj H
    go_wp2
    repeat (go_quiet (fail); try go_wp2)
    go_ret
    exact ⟨by first | rfl | (simp; done) | (simp [*]; done), by repeat (first | exact Drawn0.refl _ | apply Drawn0.step)⟩
   ·rw [if_neg c3] at H
    have c3b0 : (x1_1 == 0) = false := beq_eq_false_iff_ne.mpr c3
    have c3b1 : (x1_1 != 0) = true := bne_iff_ne.mpr c3
    have H' := Aside0.mk H
    clear H
    go_wp2
    repeat (go_quiet (fail); try go_wp2)
    go_roundg k1
    case measure => have := HK1.out; omega
    case rel => exact ⟨(x1_1), (Int.tmod x0_1 x1_1), (by first | rfl | (simp; done) | (simp [*]; done)), (by first | rfl | (simp; done) | (simp [*]; done)), H', ⟨by have := HK1.out; omega⟩, by repeat (first | exact Drawn0.refl _ | apply Drawn0.step)⟩
end Go.Proofs.YtobdccgpbohpiaaGreatDoor.F
