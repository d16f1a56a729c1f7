/- Sm: a part of the proof. -/
import Derived.Test.YtobdccgpbohpiaaGreatDoorSm13
import Derived.Test.YtobdccgpbohpiaaGreatDoorSm15
import Derived.Test.YtobdccgpbohpiaaGreatDoorSm18
import Derived.Test.YtobdccgpbohpiaaGreatDoorSm19
import Derived.Test.YtobdccgpbohpiaaGreatDoorSm20
namespace Go.Proofs.YtobdccgpbohpiaaGreatDoor.F
set_option maxHeartbeats 8000000
set_option maxRecDepth 100000
open Go.RowKit Go.Proofs.YtobdccgpbohpiaaGreatDoorW.PrintWords Go.Proofs.YtobdccgpbohpiaaGreatDoorW.PrintLast Go.Proofs.YtobdccgpbohpiaaGreatDoorW.PrintMore
attribute [local go_sem] max2_int min2_int max_two min_two max_three min_three max_four min_four
set_option linter.unusedVariables false
set_option linter.unusedSimpArgs false
mutual
def comma_List.l0 : Nat → ByteArray → ByteArray → List (S83) → List (List Int) → List (S83) → Int → Int → Option ((List (List Int)) × Int)
 | 0, _, _, _, _, _, _, _ => none
 | k + 1, x5, x6, x7, x8, x34, x35, x36 => if x36 < x35 then (if 0 ≤ x36 then (if x36 < (x34.length : Int) then ((g_whole_Of.f ((rd_T83 x34 x36).f0)).bind fun t313 => ((whole_Mul.f k t313 x6).bind fun t314 => (comma_List.l1 k x5 x6 x7 x8 t314 (x8.length : Int) (wrap64 (x36 - 1)) x34 x35 x36 ((rd_T83 x34 x36).f0) ((rd_T83 x34 x36).f1)))) else (none)) else (none)) else (some (x8, 0))
def comma_List.l1 : Nat → ByteArray → ByteArray → List (S83) → List (List Int) → ByteArray → Int → Int → List (S83) → Int → Int → Int → List Int → Option ((List (List Int)) × Int)
 | 0, _, _, _, _, _, _, _, _, _, _, _, _ => none
 | k + 1, x5, x6, x7, x8, x11, x12, x13, x34, x35, x36, x313000, x313001 => if x13 ≥ 0 then (if 0 ≤ x13 then (if x13 < (x7.length : Int) then ((g_whole_Of.f ((rd_T83 x7 x13).f0)).bind fun t321 => ((whole_Mul.f k t321 x5).bind fun t322 => ((whole_Compare.f x11 t322).bind fun t323 => (if t323 > 0 then (if 0 ≤ x12 then (if x12 ≤ (x8.length : Int) then ((g_rev_Row.f x8 x12).bind fun z_ => (comma_List.l0 k x5 x6 x7 z_ x34 x35 (wrap64 (x36 + 1)))) else (none)) else (none)) else ((comma_apart.f k x313000 x313001 ((rd_T83 x7 x13).f0) ((rd_T83 x7 x13).f1)).bind fun t330 => (if t330 = true then (if (x8.length : Int) = 10000 then (some (([] : List (List Int)), 4)) else ((g_row_Sub.f x313001 ((rd_T83 x7 x13).f1)).bind fun bt332 => (if x8.length < 5864062014805 then (comma_List.l1 k x5 x6 x7 (x8 ++ [bt332.1]) x11 x12 (wrap64 (x13 - 1)) x34 x35 x36 x313000 x313001) else (none)))) else (comma_List.l1 k x5 x6 x7 x8 x11 x12 (wrap64 (x13 - 1)) x34 x35 x36 x313000 x313001))))))) else (none)) else (none)) else (if 0 ≤ x12 then (if x12 ≤ (x8.length : Int) then ((g_rev_Row.f x8 x12).bind fun z_ => (comma_List.l0 k x5 x6 x7 z_ x34 x35 (wrap64 (x36 + 1)))) else (none)) else (none))
end
def comma_List.f (k : Nat) (l0_0 : List Int) (a0_1 : Int) (l0_2 : List Int) : Option ((List (List Int)) × Int) := (comma_Check.f k l0_0 a0_1 l0_2).bind fun t305 => (if t305 = 0 then ((comma_sides.f k l0_0 l0_2).bind fun bt306 => ((comma_numbers.f k l0_0 a0_1).bind fun t308 => (comma_List.l0 k bt306.1 bt306.2 t308 ([] : List (List Int)) t308 (t308.length : Int) 0))) else (some (([] : List (List Int)), t305)))
theorem comma_List.mono_l : ∀ k, (∀ y0 y1 y2 y3 y4 y5 y6, LeO (comma_List.l0 k y0 y1 y2 y3 y4 y5 y6) (comma_List.l0 (k + 1) y0 y1 y2 y3 y4 y5 y6)) ∧ (∀ y0 y1 y2 y3 y4 y5 y6 y7 y8 y9 y10 y11, LeO (comma_List.l1 k y0 y1 y2 y3 y4 y5 y6 y7 y8 y9 y10 y11) (comma_List.l1 (k + 1) y0 y1 y2 y3 y4 y5 y6 y7 y8 y9 y10 y11))
 | 0 => ⟨fun _ _ _ _ _ _ _ r h => by simp [comma_List.l0] at h, fun _ _ _ _ _ _ _ _ _ _ _ _ r h => by simp [comma_List.l1] at h⟩
 | k + 1 => by
  obtain ⟨ih0, ih1⟩ := comma_List.mono_l k
  refine ⟨?_, ?_⟩
  ·intro y0 y1 y2 y3 y4 y5 y6
   unfold comma_List.l0
   repeat' first
   | (with_reducible exact ih0 _ _ _ _ _ _ _)
   | (with_reducible exact ih1 _ _ _ _ _ _ _ _ _ _ _ _)
   | with_reducible apply comma_Check.mono
   | with_reducible apply comma_apart.mono
   | with_reducible apply comma_numbers.mono
   | with_reducible apply comma_sides.mono
   | with_reducible apply whole_Mul.mono
   | (with_reducible exact LeO.refl _)
   | (with_reducible exact LeO.none _)
   | (with_reducible refine LeO.ite ?_ ?_)
   | (with_reducible refine LeO.bind ?_ (fun _ => ?_))
   | refine LeO.ite ?_ ?_
   | refine LeO.bind ?_ (fun _ => ?_)
  ·intro y0 y1 y2 y3 y4 y5 y6 y7 y8 y9 y10 y11
   unfold comma_List.l1
   repeat' first
   | (with_reducible exact ih0 _ _ _ _ _ _ _)
   | (with_reducible exact ih1 _ _ _ _ _ _ _ _ _ _ _ _)
   | with_reducible apply comma_Check.mono
   | with_reducible apply comma_apart.mono
   | with_reducible apply comma_numbers.mono
   | with_reducible apply comma_sides.mono
   | with_reducible apply whole_Mul.mono
   | (with_reducible exact LeO.refl _)
   | (with_reducible exact LeO.none _)
   | (with_reducible refine LeO.ite ?_ ?_)
   | (with_reducible refine LeO.bind ?_ (fun _ => ?_))
   | refine LeO.ite ?_ ?_
   | refine LeO.bind ?_ (fun _ => ?_)
theorem comma_List.mono : ∀ a0 a1 a2 k, LeO (comma_List.f k a0 a1 a2) (comma_List.f (k + 1) a0 a1 a2) := by
 intro a0 a1 a2 k
 obtain ⟨ih0, ih1⟩ := comma_List.mono_l k
 unfold comma_List.f
 repeat' first
   | (with_reducible exact ih0 _ _ _ _ _ _ _)
   | (with_reducible exact ih1 _ _ _ _ _ _ _ _ _ _ _ _)
   | with_reducible apply comma_Check.mono
   | with_reducible apply comma_apart.mono
   | with_reducible apply comma_numbers.mono
   | with_reducible apply comma_sides.mono
   | with_reducible apply whole_Mul.mono
   | (with_reducible exact LeO.refl _)
   | (with_reducible exact LeO.none _)
   | (with_reducible refine LeO.ite ?_ ?_)
   | (with_reducible refine LeO.bind ?_ (fun _ => ?_))
   | refine LeO.ite ?_ ?_
   | refine LeO.bind ?_ (fun _ => ?_)
def comma_List.T19 : Bool × List (List Nat × List Nat) := (true, [([], []), ([0], [0]), ([], []), ([], []), ([2, 3], [2, 3]), ([4], [4]), ([5], [5]), ([1, 6], [1, 6]), ([7], [7]), ([8], [8]), ([8], [8]), ([9, 7, 0, 1, 2, 3, 4, 5, 6, 7, 8, 9], [9]), ([10, 11, 0, 1, 2, 3, 4, 5, 6, 7, 8, 9, 10, 11], [10])])
def comma_List.B19 : List Nat := [0, 1, 0, 0, 12, 28, 60, 127, 255, 511, 511, 1023, 4095]
theorem comma_List.tab19 : rtab .any (opsOf Tryz.f14 19) = comma_List.T19 := by kernel_rfl
theorem comma_List.bits19 : waitsOk comma_List.T19.2 comma_List.B19 = true := by kernel_rfl
theorem comma_List.calls (k : Nat) (A0_0 : Option Addr) (c0_0 : Nat) (l0_0 : List Int) (a0_1 : Int) (A0_2 : Option Addr) (c0_2 : Nat) (l0_2 : List Int) (r1 : List (List Int)) (r2 : Int) (w : World) (hG : Glob w) (hr0_0 : Kd.C (Kd.int .i64) w A0_0 l0_0.length l0_0) (hc0_0 : l0_0.length ≤ c0_0) (hr0_2 : Kd.C (Kd.int .i64) w A0_2 l0_2.length l0_2) (hc0_2 : l0_2.length ≤ c0_2) (h : comma_List.f k l0_0 a0_1 l0_2 = some (r1, r2)) :
  Calls Tryz.prog 14 #[.agg #[.slice A0_0 l0_0.length c0_0, .int .i64 a0_1, .slice A0_2 l0_2.length c0_2]] w fun e w' => ∃ v0_ : Value, e = .returned (.tuple #[v0_, .int .i64 r2]) ∧ Kd.N (Kd.slice 3 (Kd.int .i64)) 30 w' w.heap.size (fun k_ => (w.heap.size ≤ k_)) v0_ r1 ∧ Below w.heap.size w w' := by
 have hu32 := Tryz.underlying32
 have hu83 := Tryz.underlying83
 have HG := Aside0.mk hG
 clear hG
 have HR0_0 := Aside0.mk hr0_0
 have HC0_0 := Aside0.mk hc0_0
 clear hr0_0 hc0_0
 have HR0_2 := Aside0.mk hr0_2
 have HC0_2 := Aside0.mk hc0_2
 clear hr0_2 hc0_2
 have HB := Aside0.mk (Below.refl w.heap.size w)
 have H : ((comma_Check.f k l0_0 a0_1 l0_2).bind fun t305 => (if t305 = 0 then ((comma_sides.f k l0_0 l0_2).bind fun bt306 => ((comma_numbers.f k l0_0 a0_1).bind fun t308 => (comma_List.l0 k bt306.1 bt306.2 t308 ([] : List (List Int)) t308 (t308.length : Int) 0))) else (some (([] : List (List Int)), t305)))) = some (r1, r2) := h
 clear h
 replace H := Option.bind_eq_some_iff.mp H
 obtain ⟨t305, A20, H⟩ := H
 replace H : (if t305 = 0 then ((comma_sides.f k l0_0 l0_2).bind fun bt306 => ((comma_numbers.f k l0_0 a0_1).bind fun t308 => (comma_List.l0 k bt306.1 bt306.2 t308 ([] : List (List Int)) t308 (t308.length : Int) 0))) else (some (([] : List (List Int)), t305))) = some (r1, r2) := H
 have A2 := Aside0.mk A20
 clear A20
 by_cases c3 : t305 = 0
 ·rw [if_pos c3] at H
  have c3b0 : (t305 == 0) = true := beq_iff_eq.mpr c3
  have c3b1 : (t305 != 0) = false := bne_eq_false_iff_eq.mpr c3
  clear c3
  replace H := Option.bind_eq_some_iff.mp H
  obtain ⟨⟨t306, t307⟩, A40, H⟩ := H
  replace H : ((comma_numbers.f k l0_0 a0_1).bind fun t308 => (comma_List.l0 k t306 t307 t308 ([] : List (List Int)) t308 (t308.length : Int) 0)) = some (r1, r2) := H
  have A4 := Aside0.mk A40
  clear A40
  replace H := Option.bind_eq_some_iff.mp H
  obtain ⟨t308, A50, H⟩ := H
  replace H : (comma_List.l0 k t306 t307 t308 ([] : List (List Int)) t308 (t308.length : Int) 0) = some (r1, r2) := H
  have A5 := Aside0.mk A50
  clear A50
  have H' := Aside0.mk H
  clear H
  go_enter Tryz.func14, Tryz.ntmps14
  go_wp2_with (first | ((with_reducible refine gate_dst (N := 1) rfl ?_); refine box_event ?hg (N := 1) ?hd (cs := #[.slice A0_0 l0_0.length c0_0, .int .i64 a0_1, .slice A0_2 l0_2.length c0_2]) (t := 32) ?hr ?_; (case hd => rfl); (case hg => rfl); (case hr => first | (go_simp; done) | (go_simp; rfl)); intro gb304 hg w6 hbox hb; have n0_ := Aside0.mk (below_step (by with_reducible repeat first | exact HB.out | apply below_alloc | apply pw_below_drewN | apply below_drew1) hb); have n1_ := Aside0.mk (hbox); have n2_ := Aside0.mk ((by rw [hg]; exact (below_size (by with_reducible repeat first | exact HB.out | apply below_alloc | apply pw_below_drewN | apply below_drew1)) : w.heap.size ≤ gb304)); have n3_ := Aside0.mk ((by rw [hg]; exact (below_size (by with_reducible repeat first | exact HB.out | apply below_alloc | apply pw_below_drewN | apply below_drew1)) : w.heap.size ≤ gb304)); clear HB; have HB := n0_; have BK304 := n1_; have GW304 := n2_; have GE304 := n3_; clear n0_ n1_ n2_ n3_; clear hb hbox hg; have hcz7_0 : w6.cell? ⟨gb304, 0, none⟩ = some (.slice A0_0 l0_0.length c0_0) := (blk_cell BK304.out 0).trans rfl; have hcz7_1 : w6.cell? ⟨gb304, 1, none⟩ = some (.int .i64 a0_1) := (blk_cell BK304.out 1).trans rfl; have hcz7_2 : w6.cell? ⟨gb304, 2, none⟩ = some (.slice A0_2 l0_2.length c0_2) := (blk_cell BK304.out 2).trans rfl; have hfz7_0 := blk_frozen BK304.out 0; have hfz7_1 := blk_frozen BK304.out 1; have hfz7_2 := blk_frozen BK304.out 2) | ((with_reducible refine gate_callee (f := 33) rfl ?_); refine goesL_ (some 17) rfl rfl Tryz.func33 (by kernel_rfl) rfl #[.agg #[.slice A0_0 l0_0.length c0_0, .int .i64 a0_1, .slice A0_2 l0_2.length c0_2]] rfl (by (try simp only [List.map_toArray, List.map_cons, List.map_nil]); first | done | rfl | (simp only [List.length_drop, List.length_take]; rfl)) ?_; (with_reducible refine (comma_Check.calls k _ _ l0_0 a0_1 _ _ l0_2 t305 _ ?side1 ?side2 ?side3 ?side4 ?side5 A2.out).mono ?_); (case side1 => exact Glob.below HG.out (by repeat (first | (with_reducible first | exact HB.out | apply below_alloc | apply pw_below_drewN | apply below_drew1 | refine below_set ?_ GE304.out) | exact HB.out))); (case side2 => repeat (first | exact (Kd.C_below HR0_0.out HB.out) | (with_reducible refine Kd.C_alloc ?_ _) | (with_reducible refine Kd.C_drewN ?_ _) | (with_reducible refine Kd.C_drew ?_))); (case side3 => exact HC0_0.out); (case side4 => repeat (first | exact (Kd.C_below HR0_2.out HB.out) | (with_reducible refine Kd.C_alloc ?_ _) | (with_reducible refine Kd.C_drewN ?_ _) | (with_reducible refine Kd.C_drew ?_))); (case side5 => exact HC0_2.out); rintro e w8 ⟨rfl, hb⟩; refine ⟨_, rfl, ?_⟩; have n0_ := Aside0.mk (blk_below (g := gb304) (o := .cells #[.slice A0_0 l0_0.length c0_0, .int .i64 a0_1, .slice A0_2 l0_2.length c0_2] 32 (0, 0)) (by (with_reducible repeat (first | refine blk_drewN ?_ _ | refine blk_drew ?_ | refine blk_alloc ?_ _)); exact BK304.out) hb); have n1_ := Aside0.mk (below_step (by repeat (first | (with_reducible first | exact HB.out | apply below_alloc | apply pw_below_drewN | apply below_drew1 | refine below_set ?_ GE304.out) | exact HB.out)) hb); clear BK304; clear HB; have BK304 := n0_; have HB := n1_; clear n0_ n1_; (try clear hb); (try clear hb2); (try clear hk); (try clear hi); have hcz9_0 : w8.cell? ⟨gb304, 0, none⟩ = some (.slice A0_0 l0_0.length c0_0) := (blk_cell BK304.out 0).trans rfl; have hcz9_1 : w8.cell? ⟨gb304, 1, none⟩ = some (.int .i64 a0_1) := (blk_cell BK304.out 1).trans rfl; have hcz9_2 : w8.cell? ⟨gb304, 2, none⟩ = some (.slice A0_2 l0_2.length c0_2) := (blk_cell BK304.out 2).trans rfl; have hfz9_0 := blk_frozen BK304.out 0; have hfz9_1 := blk_frozen BK304.out 1; have hfz9_2 := blk_frozen BK304.out 2) | ((with_reducible refine gate_callee (f := 38) rfl ?_); refine goesL_ (some 26) rfl rfl Tryz.func38 (by kernel_rfl) rfl #[.slice A0_0 l0_0.length c0_0, .slice A0_2 l0_2.length c0_2] rfl (by (try simp only [List.map_toArray, List.map_cons, List.map_nil]); first | done | rfl | (simp only [List.length_drop, List.length_take]; rfl)) ?_; (with_reducible refine (comma_sides.calls k _ _ l0_0 _ _ l0_2 t306 t307 _ ?side1 ?side2 ?side3 ?side4 ?side5 A4.out).mono ?_); (case side1 => exact Glob.below HG.out (by repeat (first | (with_reducible first | exact HB.out | apply below_alloc | apply pw_below_drewN | apply below_drew1 | refine below_set ?_ GE304.out) | exact HB.out))); (case side2 => repeat (first | exact (Kd.C_below HR0_0.out HB.out) | (with_reducible refine Kd.C_alloc ?_ _) | (with_reducible refine Kd.C_drewN ?_ _) | (with_reducible refine Kd.C_drew ?_))); (case side3 => exact HC0_0.out); (case side4 => repeat (first | exact (Kd.C_below HR0_2.out HB.out) | (with_reducible refine Kd.C_alloc ?_ _) | (with_reducible refine Kd.C_drewN ?_ _) | (with_reducible refine Kd.C_drew ?_))); (case side5 => exact HC0_2.out); rintro e w10 ⟨rfl, hb⟩; refine ⟨_, rfl, ?_⟩; have n0_ := Aside0.mk (blk_below (g := gb304) (o := .cells #[.slice A0_0 l0_0.length c0_0, .int .i64 a0_1, .slice A0_2 l0_2.length c0_2] 32 (0, 0)) (by (with_reducible repeat (first | refine blk_drewN ?_ _ | refine blk_drew ?_ | refine blk_alloc ?_ _)); exact BK304.out) hb); have n1_ := Aside0.mk (below_step (by repeat (first | (with_reducible first | exact HB.out | apply below_alloc | apply pw_below_drewN | apply below_drew1 | refine below_set ?_ GE304.out) | exact HB.out)) hb); clear BK304; clear HB; have BK304 := n0_; have HB := n1_; clear n0_ n1_; (try clear hb); (try clear hb2); (try clear hk); (try clear hi); have hcz11_0 : w10.cell? ⟨gb304, 0, none⟩ = some (.slice A0_0 l0_0.length c0_0) := (blk_cell BK304.out 0).trans rfl; have hcz11_1 : w10.cell? ⟨gb304, 1, none⟩ = some (.int .i64 a0_1) := (blk_cell BK304.out 1).trans rfl; have hcz11_2 : w10.cell? ⟨gb304, 2, none⟩ = some (.slice A0_2 l0_2.length c0_2) := (blk_cell BK304.out 2).trans rfl; have hfz11_0 := blk_frozen BK304.out 0; have hfz11_1 := blk_frozen BK304.out 1; have hfz11_2 := blk_frozen BK304.out 2) | ((with_reducible refine gate_callee (f := 39) rfl ?_); refine goesL_ (some 33) rfl rfl Tryz.func39 (by kernel_rfl) rfl #[.slice A0_0 l0_0.length c0_0, .int .i64 a0_1] rfl (by (try simp only [List.map_toArray, List.map_cons, List.map_nil]); first | done | rfl | (simp only [List.length_drop, List.length_take]; rfl)) ?_; (with_reducible refine (comma_numbers.calls k _ _ l0_0 a0_1 t308 _ ?side1 ?side2 A5.out).mono ?_); (case side1 => repeat (first | exact (Kd.C_below HR0_0.out HB.out) | (with_reducible refine Kd.C_alloc ?_ _) | (with_reducible refine Kd.C_drewN ?_ _) | (with_reducible refine Kd.C_drew ?_))); (case side2 => exact HC0_0.out); rintro e w12 ⟨v309, rfl, ho0, hb⟩; refine ⟨_, rfl, ?_⟩; have n0_ := Aside0.mk (Kd.N_lower (Kd.N_mono (ok' := fun k_ => (w.heap.size ≤ k_) ∧ k_ ≠ gb304) ho0 (fun k_ hk_ => ⟨(Nat.le_trans (below_size (by repeat (first | (with_reducible first | exact HB.out | apply below_alloc | apply pw_below_drewN | apply below_drew1 | refine below_set ?_ GE304.out) | exact HB.out))) hk_), (Kd.freshB (g := gb304) (o := .cells #[.slice A0_0 l0_0.length c0_0, .int .i64 a0_1, .slice A0_2 l0_2.length c0_2] 32 (0, 0)) (by (with_reducible repeat (first | refine blk_drewN ?_ _ | refine blk_drew ?_ | refine blk_alloc ?_ _)); exact BK304.out) k_ hk_)⟩)) (below_size (by repeat (first | (with_reducible first | exact HB.out | apply below_alloc | apply pw_below_drewN | apply below_drew1 | refine below_set ?_ GE304.out) | exact HB.out)))); have n1_ := Aside0.mk (blk_below (g := gb304) (o := .cells #[.slice A0_0 l0_0.length c0_0, .int .i64 a0_1, .slice A0_2 l0_2.length c0_2] 32 (0, 0)) (by (with_reducible repeat (first | refine blk_drewN ?_ _ | refine blk_drew ?_ | refine blk_alloc ?_ _)); exact BK304.out) hb); have n2_ := Aside0.mk (below_step (by repeat (first | (with_reducible first | exact HB.out | apply below_alloc | apply pw_below_drewN | apply below_drew1 | refine below_set ?_ GE304.out) | exact HB.out)) hb); clear BK304; clear HB; have HO310 := n0_; have BK304 := n1_; have HB := n2_; clear n0_ n1_ n2_; (try clear hb); (try clear hb2); (try clear hk); (try clear hi); (try clear ho0); obtain ⟨Ao13, co13, eo13⟩ := Kd.N_slice HO310.out; subst eo13))
  go_loopg [8, 36] k (fun kq v8 v36 w' => ∃ (x8_1 : List (List Int)) (x36_1 : Int), v36 = .int .i64 x36_1 ∧ Aside0 (comma_List.l0 kq t306 t307 t308 x8_1 t308 (t308.length : Int) x36_1 = some (r1, r2)) ∧ Aside0 (kq ≤ k) ∧ Aside0 (Kd.N k83 83 w' w.heap.size (fun k_ => (w.heap.size ≤ k_) ∧ some k_ ≠ (v8 : Value).ownBlock ∧ k_ ≠ gb304) (.slice Ao13 t308.length co13) t308) ∧ Aside0 (Kd.N (Kd.slice 3 (Kd.int .i64)) 30 w' w.heap.size (fun k_ => (w.heap.size ≤ k_) ∧ some k_ ≠ ((.slice Ao13 t308.length co13) : Value).ownBlock ∧ some k_ ≠ ((.slice Ao13 t308.length co13) : Value).ownBlock ∧ k_ ≠ gb304) v8 x8_1) ∧ Aside0 (Kd.N k83 83 w' w.heap.size (fun k_ => (w.heap.size ≤ k_) ∧ some k_ ≠ (v8 : Value).ownBlock ∧ k_ ≠ gb304) (.slice Ao13 t308.length co13) t308) ∧ Aside0 (w'.heap[gb304]? = some (.cells #[(.slice A0_0 l0_0.length c0_0), .int .i64 a0_1, (.slice A0_2 l0_2.length c0_2)] 32 (0, 0))) ∧ Aside0 (Below w.heap.size w w'))
  case atStart => exact ⟨(([] : List (List Int))), (0), (by first | rfl | (simp; done) | (simp [*]; done)), H', ⟨Nat.le_refl _⟩, ⟨by (with_reducible repeat (first | apply Kd.N_alloc | apply Kd.N_drewN | apply Kd.N_drew)); exact Kd.N_mono HO310.out (fun _ hk => ⟨hk.1, ⟨(by simp [Value.ownBlock]), hk.2⟩⟩)⟩, ⟨by first | exact Kd.S_nil _ _ _ _ _ | exact Kd.N_nil _ _ _ _ _ | exact Kd.V_nil _ _ _ _ _ | exact Kd.Q_nil _ _ _ _ _ | exact Kd.R_nil _ _ _ _ _⟩, ⟨by (with_reducible repeat (first | apply Kd.N_alloc | apply Kd.N_drewN | apply Kd.N_drew)); exact Kd.N_mono HO310.out (fun _ hk => ⟨hk.1, ⟨(by simp [Value.ownBlock]), hk.2⟩⟩)⟩, ⟨by (with_reducible repeat (first | refine blk_drewN ?_ _ | refine blk_drew ?_ | refine blk_alloc ?_ _)); exact BK304.out⟩, ⟨by repeat (first | (with_reducible first | exact HB.out | apply below_alloc | apply pw_below_drewN | apply below_drew1 | refine below_set ?_ GE304.out) | exact HB.out)⟩⟩
  case round =>
   clear H'
   try clear c1
   try clear p2
   try clear c3
   try clear c3b0
   try clear c3b1
   try clear hcz11_0
   try clear hcz11_1
   try clear hcz11_2
   try clear hcz7_0
   try clear hcz7_1
   try clear hcz7_2
   try clear hcz9_0
   try clear hcz9_1
   try clear hcz9_2
   try clear hfz11_0
   try clear hfz11_1
   try clear hfz11_2
   try clear hfz7_0
   try clear hfz7_1
   try clear hfz7_2
   try clear hfz9_0
   try clear hfz9_1
   try clear hfz9_2
   obtain ⟨x8_1, x36_1, rfl, HA, HK1, HO_7, HO_8, HO_34, BK304, HB⟩ := hrel
   cases gk with
   | zero => exact absurd HA.out (by simp [comma_List.l0])
   | succ k1 =>
    have H := HA.out
    clear HA
    simp only [comma_List.l0] at H
    by_cases c14 : x36_1 < (t308.length : Int)
    ·rw [if_pos c14] at H
     have c14b0 : decide (x36_1 < (t308.length : Int)) = true := decide_eq_true c14
     clear c14
     by_cases c15 : 0 ≤ x36_1
     ·rw [if_pos c15] at H
      have c15b0 : decide (0 ≤ x36_1) = true := decide_eq_true c15
      clear c15
      by_cases c16 : x36_1 < (t308.length : Int)
      ·rw [if_pos c16] at H
       have c16b0 : decide (x36_1 < (t308.length : Int)) = true := decide_eq_true c16
       clear c16
       replace H := Option.bind_eq_some_iff.mp H
       obtain ⟨t313, A170, H⟩ := H
       replace H : ((whole_Mul.f k1 t313 t307).bind fun t314 => (comma_List.l1 k1 t306 t307 t308 x8_1 t314 (x8_1.length : Int) (wrap64 (x36_1 - 1)) t308 (t308.length : Int) x36_1 ((rd_T83 t308 x36_1).f0) ((rd_T83 t308 x36_1).f1))) = some (r1, r2) := H
       have A17 := Aside0.mk A170
       clear A170
       replace H := Option.bind_eq_some_iff.mp H
       obtain ⟨t314, A180, H⟩ := H
       replace H : (comma_List.l1 k1 t306 t307 t308 x8_1 t314 (x8_1.length : Int) (wrap64 (x36_1 - 1)) t308 (t308.length : Int) x36_1 ((rd_T83 t308 x36_1).f0) ((rd_T83 t308 x36_1).f1)) = some (r1, r2) := H
       have A18 := Aside0.mk A180
       clear A180
       have H' := Aside0.mk H
       clear H
       have p311 : 0 ≤ (x36_1 : Int) := of_decide_eq_true (by with_reducible assumption)
       have q311 : x36_1 < (t308.length : Int) := of_decide_eq_true (by with_reducible assumption)
       obtain ⟨ad311, A311_1, c311_1, e311, hx311_0, hx311_1, hl311_1, hi311_1⟩ := at_T83 (Kd.N_reads' HO_34.out).2.2 x36_1 p311 q311
       cases e311
       obtain ⟨ce311, hce311, hMe311, hcc311⟩ := Kd.N_get HO_34.out z83 x36_1 p311 (by first | exact q311 | exact of_decide_eq_true (by with_reducible assumption) | (have e_ := (Kd.N_reads' HO_34.out).1; omega))
       obtain ⟨ua311_1, uc311_1, rfl, ul311_1, ge311_1⟩ := k83_openF hMe311
       have hv311_1 := hcc311 1 _ rfl
       rw [add_field _ _ 1 (by omega)] at hv311_1
       replace hv311_1 := Option.some.inj (hv311_1.symm.trans hx311_1)
       injection hv311_1 with hva_ hvn_ hvc_
       rw [hva_] at ge311_1
       rw [hvc_] at ul311_1
       have HL311_1 := Aside0.mk (show Kd.V (Kd.int .i64) 3 _ w.heap.size _ _ ((rd_T83 t308 x36_1).f1) from Kd.V_mk ul311_1 ge311_1)
       clear hva_ hvn_ hvc_ ge311_1 ul311_1
       clear hcc311 hce311
       have HR311_1 := Aside0.mk hi311_1
       have HC311_1 := Aside0.mk hl311_1
       clear hi311_1 hl311_1
       replace p311 := eq_true p311
       replace q311 := eq_true q311
       go_wp2_with (first | ((with_reducible refine gate_dst (N := 10) rfl ?_); refine box_event ?hg (N := 10) ?hd (cs := #[.int .i64 0, .slice none 0 0]) (t := 83) ?hr ?_; (case hd => rfl); (case hg => rfl); (case hr => first | (go_simp; done) | (go_simp; rfl)); intro gb312 hg w19 hbox hb; have n0_ := Aside0.mk (Kd.N_below (Kd.N_elderB (by (with_reducible repeat (first | apply Kd.N_alloc | apply Kd.N_drewN | apply Kd.N_drew)); exact HO_7.out) gb312 (Nat.le_of_eq hg.symm)) hb); have n1_ := Aside0.mk (Kd.N_below (Kd.N_elderB (by (with_reducible repeat (first | apply Kd.N_alloc | apply Kd.N_drewN | apply Kd.N_drew)); exact HO_8.out) gb312 (Nat.le_of_eq hg.symm)) hb); have n2_ := Aside0.mk (Kd.N_below (Kd.N_elderB (by (with_reducible repeat (first | apply Kd.N_alloc | apply Kd.N_drewN | apply Kd.N_drew)); exact HO_34.out) gb312 (Nat.le_of_eq hg.symm)) hb); have n3_ := Aside0.mk (Kd.V_below (Kd.V_elderB (by (with_reducible repeat (first | apply Kd.V_alloc | apply Kd.V_drewN | apply Kd.V_drew)); exact HL311_1.out) gb312 (Nat.le_of_eq hg.symm)) hb); have n4_ := Aside0.mk (blk_below (g := gb304) (o := .cells #[.slice A0_0 l0_0.length c0_0, .int .i64 a0_1, .slice A0_2 l0_2.length c0_2] 32 (0, 0)) (by (with_reducible repeat (first | refine blk_drewN ?_ _ | refine blk_drew ?_ | refine blk_alloc ?_ _)); exact BK304.out) hb); have n5_ := Aside0.mk (Kd.C_below (by repeat (first | (with_reducible exact HR311_1.out) | (with_reducible refine Kd.C_alloc ?_ _) | (with_reducible refine Kd.C_drewN ?_ _) | (with_reducible refine Kd.C_drew ?_) | exact HR311_1.out)) hb); have n6_ := Aside0.mk (below_step (by repeat (first | (with_reducible first | exact HB.out | apply below_alloc | apply pw_below_drewN | apply below_drew1 | refine below_set ?_ GE304.out) | exact HB.out)) hb); have n7_ := Aside0.mk (hbox); have n8_ := Aside0.mk ((by rw [hg]; exact (below_size (by repeat (first | (with_reducible first | exact HB.out | apply below_alloc | apply pw_below_drewN | apply below_drew1 | refine below_set ?_ GE304.out) | exact HB.out))) : w.heap.size ≤ gb312)); have n9_ := Aside0.mk ((by rw [hg]; exact (below_size (by repeat (first | (with_reducible first | exact HB.out | apply below_alloc | apply pw_below_drewN | apply below_drew1 | refine below_set ?_ GE304.out) | exact HB.out))) : w.heap.size ≤ gb312)); have n10_ := Aside0.mk ((by rw [hg]; exact Nat.ne_of_lt (blk_lt (g := gb304) (o := .cells #[.slice A0_0 l0_0.length c0_0, .int .i64 a0_1, .slice A0_2 l0_2.length c0_2] 32 (0, 0)) (by (with_reducible repeat (first | refine blk_drewN ?_ _ | refine blk_drew ?_ | refine blk_alloc ?_ _)); exact BK304.out)) : gb304 ≠ gb312)); have n11_ := Aside0.mk ((by rw [hg]; exact Nat.ne_of_gt (blk_lt (g := gb304) (o := .cells #[.slice A0_0 l0_0.length c0_0, .int .i64 a0_1, .slice A0_2 l0_2.length c0_2] 32 (0, 0)) (by (with_reducible repeat (first | refine blk_drewN ?_ _ | refine blk_drew ?_ | refine blk_alloc ?_ _)); exact BK304.out)) : gb312 ≠ gb304)); clear HO_7; clear HO_8; clear HO_34; clear HL311_1; clear BK304; clear HR311_1; clear HB; have HO_7 := n0_; have HO_8 := n1_; have HO_34 := n2_; have HL311_1 := n3_; have BK304 := n4_; have HR311_1 := n5_; have HB := n6_; have BK312 := n7_; have GW312 := n8_; have GE312 := n9_; have NB304_312 := n10_; have NB312_304 := n11_; clear n0_ n1_ n2_ n3_ n4_ n5_ n6_ n7_ n8_ n9_ n10_ n11_; clear hb hbox hg; have hnb20 := NB312_304.out; have hnc20 := NB304_312.out; have hcz21_0 : w19.cell? ⟨gb312, 0, none⟩ = some (.int .i64 0) := (blk_cell BK312.out 0).trans rfl; have hcz21_1 : w19.cell? ⟨gb312, 1, none⟩ = some (.slice none 0 0) := (blk_cell BK312.out 1).trans rfl; have hfz21_0 := blk_frozen BK312.out 0; have hfz21_1 := blk_frozen BK312.out 1) | ((with_reducible refine gate_callee (f := 41) rfl ?_); refine goesL_ (some 43) rfl rfl Tryz.func41 (by kernel_rfl) rfl #[.int .i64 ((rd_T83 t308 x36_1).f0)] rfl (by (try simp only [List.map_toArray, List.map_cons, List.map_nil]); first | done | rfl | (simp only [List.length_drop, List.length_take]; rfl)) ?_; (with_reducible refine (g_whole_Of.calls ((rd_T83 t308 x36_1).f0) t313 _ ?side1 A17.out).mono ?_); (case side1 => exact Glob.below HG.out (by repeat (first | (with_reducible first | exact HB.out | apply below_alloc | apply pw_below_drewN | apply below_drew1 | refine below_set ?_ GE304.out | refine below_set ?_ GE312.out) | exact HB.out))); rintro e w22 ⟨rfl, hb⟩; refine ⟨_, rfl, ?_⟩; have n0_ := Aside0.mk (Kd.N_below (by (with_reducible repeat (first | apply Kd.N_alloc | apply Kd.N_drewN | apply Kd.N_drew)); exact (Kd.N_mono (Kd.N_far (p := ⟨gb312, 1, none⟩) (Kd.N_far (p := ⟨gb312, 0, none⟩) (Kd.N_mono HO_7.out (fun k_ hk => (⟨hk, hk.2⟩ : _ ∧ k_ ≠ gb312))) (fun _ hk => hk.2) (.int .i64 ((rd_T83 t308 x36_1).f0))) (fun _ hk => hk.2) (.slice A311_1 ((rd_T83 t308 x36_1).f1).length c311_1)) (fun _ h_ => h_.1))) hb); have n1_ := Aside0.mk (Kd.N_below (by (with_reducible repeat (first | apply Kd.N_alloc | apply Kd.N_drewN | apply Kd.N_drew)); exact (Kd.N_mono (Kd.N_far (p := ⟨gb312, 1, none⟩) (Kd.N_far (p := ⟨gb312, 0, none⟩) (Kd.N_mono HO_8.out (fun k_ hk => (⟨hk, hk.2⟩ : _ ∧ k_ ≠ gb312))) (fun _ hk => hk.2) (.int .i64 ((rd_T83 t308 x36_1).f0))) (fun _ hk => hk.2) (.slice A311_1 ((rd_T83 t308 x36_1).f1).length c311_1)) (fun _ h_ => h_.1))) hb); have n2_ := Aside0.mk (Kd.N_below (by (with_reducible repeat (first | apply Kd.N_alloc | apply Kd.N_drewN | apply Kd.N_drew)); exact (Kd.N_mono (Kd.N_far (p := ⟨gb312, 1, none⟩) (Kd.N_far (p := ⟨gb312, 0, none⟩) (Kd.N_mono HO_34.out (fun k_ hk => (⟨hk, hk.2⟩ : _ ∧ k_ ≠ gb312))) (fun _ hk => hk.2) (.int .i64 ((rd_T83 t308 x36_1).f0))) (fun _ hk => hk.2) (.slice A311_1 ((rd_T83 t308 x36_1).f1).length c311_1)) (fun _ h_ => h_.1))) hb); have n3_ := Aside0.mk (Kd.V_below (by (with_reducible repeat (first | apply Kd.V_alloc | apply Kd.V_drewN | apply Kd.V_drew)); exact (Kd.V_mono (Kd.V_far (p := ⟨gb312, 1, none⟩) (Kd.V_far (p := ⟨gb312, 0, none⟩) (Kd.V_mono HL311_1.out (fun k_ hk => (⟨hk, hk.2⟩ : _ ∧ k_ ≠ gb312))) (fun _ hk => hk.2) (.int .i64 ((rd_T83 t308 x36_1).f0))) (fun _ hk => hk.2) (.slice A311_1 ((rd_T83 t308 x36_1).f1).length c311_1)) (fun _ h_ => h_.1))) hb); have n4_ := Aside0.mk (blk_below (g := gb304) (o := .cells #[.slice A0_0 l0_0.length c0_0, .int .i64 a0_1, .slice A0_2 l0_2.length c0_2] 32 (0, 0)) (by (with_reducible repeat (first | refine blk_drewN ?_ _ | refine blk_drew ?_ | refine blk_alloc ?_ _)); refine blk_far ?_ NB304_312.out _; (with_reducible repeat (first | refine blk_drewN ?_ _ | refine blk_drew ?_ | refine blk_alloc ?_ _)); refine blk_far ?_ NB304_312.out _; (with_reducible repeat (first | refine blk_drewN ?_ _ | refine blk_drew ?_ | refine blk_alloc ?_ _)); exact BK304.out) hb); have n5_ := Aside0.mk (Kd.C_below ((Kd.V_reads' (by (with_reducible repeat (first | apply Kd.V_alloc | apply Kd.V_drewN | apply Kd.V_drew)); exact (Kd.V_mono (Kd.V_far (p := ⟨gb312, 1, none⟩) (Kd.V_far (p := ⟨gb312, 0, none⟩) (Kd.V_mono HL311_1.out (fun k_ hk => (⟨hk, hk.2⟩ : _ ∧ k_ ≠ gb312))) (fun _ hk => hk.2) (.int .i64 ((rd_T83 t308 x36_1).f0))) (fun _ hk => hk.2) (.slice A311_1 ((rd_T83 t308 x36_1).f1).length c311_1)) (fun _ h_ => h_.1)))).2.2) hb); have n6_ := Aside0.mk (blk_below (g := gb312) (o := .cells #[.int .i64 ((rd_T83 t308 x36_1).f0), .slice A311_1 ((rd_T83 t308 x36_1).f1).length c311_1] 83 (0, 0)) (by (with_reducible repeat (first | refine blk_drewN ?_ _ | refine blk_drew ?_ | refine blk_alloc ?_ _)); refine blk_put (cs := #[.int .i64 ((rd_T83 t308 x36_1).f0), .slice none 0 0]) ?_ 1 _ rfl; (with_reducible repeat (first | refine blk_drewN ?_ _ | refine blk_drew ?_ | refine blk_alloc ?_ _)); refine blk_put (cs := #[.int .i64 0, .slice none 0 0]) ?_ 0 _ rfl; (with_reducible repeat (first | refine blk_drewN ?_ _ | refine blk_drew ?_ | refine blk_alloc ?_ _)); exact BK312.out) hb); have n7_ := Aside0.mk (below_step (by repeat (first | (with_reducible first | exact HB.out | apply below_alloc | apply pw_below_drewN | apply below_drew1 | refine below_set ?_ GE304.out | refine below_set ?_ GE312.out) | exact HB.out)) hb); clear HO_7; clear HO_8; clear HO_34; clear HL311_1; clear BK304; clear HR311_1; clear BK312; clear HB; have HO_7 := n0_; have HO_8 := n1_; have HO_34 := n2_; have HL311_1 := n3_; have BK304 := n4_; have HR311_1 := n5_; have BK312 := n6_; have HB := n7_; clear n0_ n1_ n2_ n3_ n4_ n5_ n6_ n7_; (try clear hb); (try clear hb2); (try clear hk); (try clear hi)) | ((with_reducible refine gate_callee (f := 40) rfl ?_); refine goesL_ (some 45) rfl rfl Tryz.func40 (by kernel_rfl) rfl #[.string t313, .string t307] rfl (by (try simp only [List.map_toArray, List.map_cons, List.map_nil]); first | done | rfl | (simp only [List.length_drop, List.length_take]; rfl)) ?_; (with_reducible refine (whole_Mul.calls k1 t313 t307 t314 _ ?side1 A18.out).mono ?_); (case side1 => exact Glob.below HG.out (by repeat (first | (with_reducible first | exact HB.out | apply below_alloc | apply pw_below_drewN | apply below_drew1 | refine below_set ?_ GE304.out | refine below_set ?_ GE312.out) | exact HB.out))); rintro e w23 ⟨rfl, hb⟩; refine ⟨_, rfl, ?_⟩; have n0_ := Aside0.mk (Kd.N_below (by (with_reducible repeat (first | apply Kd.N_alloc | apply Kd.N_drewN | apply Kd.N_drew)); exact HO_7.out) hb); have n1_ := Aside0.mk (Kd.N_below (by (with_reducible repeat (first | apply Kd.N_alloc | apply Kd.N_drewN | apply Kd.N_drew)); exact HO_8.out) hb); have n2_ := Aside0.mk (Kd.N_below (by (with_reducible repeat (first | apply Kd.N_alloc | apply Kd.N_drewN | apply Kd.N_drew)); exact HO_34.out) hb); have n3_ := Aside0.mk (Kd.V_below (by (with_reducible repeat (first | apply Kd.V_alloc | apply Kd.V_drewN | apply Kd.V_drew)); exact HL311_1.out) hb); have n4_ := Aside0.mk (blk_below (g := gb304) (o := .cells #[.slice A0_0 l0_0.length c0_0, .int .i64 a0_1, .slice A0_2 l0_2.length c0_2] 32 (0, 0)) (by (with_reducible repeat (first | refine blk_drewN ?_ _ | refine blk_drew ?_ | refine blk_alloc ?_ _)); exact BK304.out) hb); have n5_ := Aside0.mk (Kd.C_below (by repeat (first | (with_reducible exact HR311_1.out) | (with_reducible refine Kd.C_alloc ?_ _) | (with_reducible refine Kd.C_drewN ?_ _) | (with_reducible refine Kd.C_drew ?_) | exact HR311_1.out)) hb); have n6_ := Aside0.mk (blk_below (g := gb312) (o := .cells #[.int .i64 ((rd_T83 t308 x36_1).f0), .slice A311_1 ((rd_T83 t308 x36_1).f1).length c311_1] 83 (0, 0)) (by (with_reducible repeat (first | refine blk_drewN ?_ _ | refine blk_drew ?_ | refine blk_alloc ?_ _)); exact BK312.out) hb); have n7_ := Aside0.mk (below_step (by repeat (first | (with_reducible first | exact HB.out | apply below_alloc | apply pw_below_drewN | apply below_drew1 | refine below_set ?_ GE304.out | refine below_set ?_ GE312.out) | exact HB.out)) hb); clear HO_7; clear HO_8; clear HO_34; clear HL311_1; clear BK304; clear HR311_1; clear BK312; clear HB; have HO_7 := n0_; have HO_8 := n1_; have HO_34 := n2_; have HL311_1 := n3_; have BK304 := n4_; have HR311_1 := n5_; have BK312 := n6_; have HB := n7_; clear n0_ n1_ n2_ n3_ n4_ n5_ n6_ n7_; (try clear hb); (try clear hb2); (try clear hk); (try clear hi); obtain ⟨Ao24, co24, eo24⟩ := Kd.N_slice HO_8.out; subst eo24))
       go_loopg [8, 13] k1 (fun kq v8 v13 w' => ∃ (x8_2 : List (List Int)) (x13_2 : Int), v13 = .int .i64 x13_2 ∧ Aside0 (comma_List.l1 kq t306 t307 t308 x8_2 t314 (x8_1.length : Int) x13_2 t308 (t308.length : Int) x36_1 ((rd_T83 t308 x36_1).f0) ((rd_T83 t308 x36_1).f1) = some (r1, r2)) ∧ Aside0 (kq ≤ k1) ∧ Aside0 (Kd.N k83 83 w' w.heap.size (fun k_ => (w.heap.size ≤ k_) ∧ some k_ ≠ (v8 : Value).ownBlock ∧ k_ ≠ gb304 ∧ k_ ≠ gb312) (.slice (some ad311) t308.length co13) t308) ∧ Aside0 (Kd.N (Kd.slice 3 (Kd.int .i64)) 30 w' w.heap.size (fun k_ => (w.heap.size ≤ k_) ∧ some k_ ≠ ((.slice (some ad311) t308.length co13) : Value).ownBlock ∧ some k_ ≠ ((.slice (some ad311) t308.length co13) : Value).ownBlock ∧ k_ ≠ gb304 ∧ k_ ≠ gb312) v8 x8_2) ∧ Aside0 (Kd.N k83 83 w' w.heap.size (fun k_ => (w.heap.size ≤ k_) ∧ some k_ ≠ (v8 : Value).ownBlock ∧ k_ ≠ gb304 ∧ k_ ≠ gb312) (.slice (some ad311) t308.length co13) t308) ∧ Aside0 (w'.heap[gb304]? = some (.cells #[(.slice A0_0 l0_0.length c0_0), .int .i64 a0_1, (.slice A0_2 l0_2.length c0_2)] 32 (0, 0))) ∧ Aside0 (w'.heap[gb312]? = some (.cells #[.int .i64 ((rd_T83 t308 x36_1).f0), (.slice A311_1 ((rd_T83 t308 x36_1).f1).length c311_1)] 83 (0, 0))) ∧ Aside0 (Kd.V (Kd.int .i64) 3 w' w.heap.size (fun k_ => ((w.heap.size ≤ k_) ∧ some k_ ≠ (v8 : Value).ownBlock ∧ k_ ≠ gb304 ∧ k_ ≠ gb312) ∧ some k_ ≠ ((.slice (some ad311) t308.length co13) : Value).ownBlock) (.slice A311_1 ((rd_T83 t308 x36_1).f1).length c311_1) ((rd_T83 t308 x36_1).f1)) ∧ Aside0 (Below w.heap.size w w'))
       case atStart => exact ⟨(x8_1), (wrap64 (x36_1 - 1)), (by first | rfl | (simp; done) | (simp [*]; done)), H', ⟨Nat.le_refl _⟩, ⟨by (with_reducible repeat (first | apply Kd.N_alloc | apply Kd.N_drewN | apply Kd.N_drew)); exact Kd.N_mono HO_7.out (fun _ hk => ⟨hk.1.1, ⟨hk.1.2.1, ⟨hk.1.2.2, hk.2⟩⟩⟩)⟩, ⟨by (with_reducible repeat (first | apply Kd.N_alloc | apply Kd.N_drewN | apply Kd.N_drew)); exact Kd.N_mono HO_8.out (fun _ hk => ⟨hk.1.1, ⟨hk.1.2.1, ⟨hk.1.2.2.1, ⟨hk.1.2.2.2, hk.2⟩⟩⟩⟩)⟩, ⟨by (with_reducible repeat (first | apply Kd.N_alloc | apply Kd.N_drewN | apply Kd.N_drew)); exact Kd.N_mono HO_34.out (fun _ hk => ⟨hk.1.1, ⟨hk.1.2.1, ⟨hk.1.2.2, hk.2⟩⟩⟩)⟩, ⟨by (with_reducible repeat (first | refine blk_drewN ?_ _ | refine blk_drew ?_ | refine blk_alloc ?_ _)); exact BK304.out⟩, ⟨by (with_reducible repeat (first | refine blk_drewN ?_ _ | refine blk_drew ?_ | refine blk_alloc ?_ _)); exact BK312.out⟩, ⟨by (with_reducible repeat (first | apply Kd.V_alloc | apply Kd.V_drewN | apply Kd.V_drew)); exact Kd.V_mono HL311_1.out (fun _ hk => ⟨⟨hk.1.1.1, hk.1.1.2.1, hk.1.1.2.2, hk.2⟩, hk.1.2⟩)⟩, ⟨by repeat (first | (with_reducible first | exact HB.out | apply below_alloc | apply pw_below_drewN | apply below_drew1 | refine below_set ?_ GE304.out | refine below_set ?_ GE312.out) | exact HB.out)⟩⟩
       case round =>
        clear H'
        try clear c1
        try clear c2
        try clear p2
        try clear c3
        try clear c3b0
        try clear c3b1
        try clear p3
        try clear q3
        try clear hx3
        try clear c4
        try clear p6
        try clear c14
        try clear c14b0
        try clear c15
        try clear c15b0
        try clear c16
        try clear c16b0
        try clear c20
        try clear hcz11_0
        try clear hcz11_1
        try clear hcz11_2
        try clear hcz21_0
        try clear hcz21_1
        try clear hcz7_0
        try clear hcz7_1
        try clear hcz7_2
        try clear hcz9_0
        try clear hcz9_1
        try clear hcz9_2
        try clear hfz11_0
        try clear hfz11_1
        try clear hfz11_2
        try clear hfz21_0
        try clear hfz21_1
        try clear hfz7_0
        try clear hfz7_1
        try clear hfz7_2
        try clear hfz9_0
        try clear hfz9_1
        try clear hfz9_2
        try clear hx311_0
        try clear hx311_1
        try clear p2
        try clear p311
        try clear q311
        obtain ⟨x8_2, x13_2, rfl, HA, HK2, HO_7, HO_8, HO_34, BK304, BK312, HLa_, HB⟩ := hrel
        cases gk with
        | zero => exact absurd HA.out (by simp [comma_List.l1])
        | succ k2 =>
         have H := HA.out
         clear HA
         simp only [comma_List.l1] at H
         by_cases c25 : x13_2 ≥ 0
         ·rw [if_pos c25] at H
          have c25b0 : decide (0 ≤ x13_2) = true := decide_eq_true c25
          clear c25
          by_cases c26 : 0 ≤ x13_2
          ·rw [if_pos c26] at H
           have c26b0 : decide (0 ≤ x13_2) = true := decide_eq_true c26
           clear c26
           by_cases c27 : x13_2 < (t308.length : Int)
           ·rw [if_pos c27] at H
            have c27b0 : decide (x13_2 < (t308.length : Int)) = true := decide_eq_true c27
            clear c27
            replace H := Option.bind_eq_some_iff.mp H
            obtain ⟨t321, A280, H⟩ := H
            replace H : ((whole_Mul.f k2 t321 t306).bind fun t322 => ((whole_Compare.f t314 t322).bind fun t323 => (if t323 > 0 then (if 0 ≤ (x8_1.length : Int) then (if (x8_1.length : Int) ≤ (x8_2.length : Int) then ((g_rev_Row.f x8_2 (x8_1.length : Int)).bind fun z_ => (comma_List.l0 k2 t306 t307 t308 z_ t308 (t308.length : Int) (wrap64 (x36_1 + 1)))) else (none)) else (none)) else ((comma_apart.f k2 ((rd_T83 t308 x36_1).f0) ((rd_T83 t308 x36_1).f1) ((rd_T83 t308 x13_2).f0) ((rd_T83 t308 x13_2).f1)).bind fun t330 => (if t330 = true then (if (x8_2.length : Int) = 10000 then (some (([] : List (List Int)), 4)) else ((g_row_Sub.f ((rd_T83 t308 x36_1).f1) ((rd_T83 t308 x13_2).f1)).bind fun bt332 => (if x8_2.length < 5864062014805 then (comma_List.l1 k2 t306 t307 t308 (x8_2 ++ [bt332.1]) t314 (x8_1.length : Int) (wrap64 (x13_2 - 1)) t308 (t308.length : Int) x36_1 ((rd_T83 t308 x36_1).f0) ((rd_T83 t308 x36_1).f1)) else (none)))) else (comma_List.l1 k2 t306 t307 t308 x8_2 t314 (x8_1.length : Int) (wrap64 (x13_2 - 1)) t308 (t308.length : Int) x36_1 ((rd_T83 t308 x36_1).f0) ((rd_T83 t308 x36_1).f1))))))) = some (r1, r2) := H
            have A28 := Aside0.mk A280
            clear A280
            replace H := Option.bind_eq_some_iff.mp H
            obtain ⟨t322, A290, H⟩ := H
            replace H : ((whole_Compare.f t314 t322).bind fun t323 => (if t323 > 0 then (if 0 ≤ (x8_1.length : Int) then (if (x8_1.length : Int) ≤ (x8_2.length : Int) then ((g_rev_Row.f x8_2 (x8_1.length : Int)).bind fun z_ => (comma_List.l0 k2 t306 t307 t308 z_ t308 (t308.length : Int) (wrap64 (x36_1 + 1)))) else (none)) else (none)) else ((comma_apart.f k2 ((rd_T83 t308 x36_1).f0) ((rd_T83 t308 x36_1).f1) ((rd_T83 t308 x13_2).f0) ((rd_T83 t308 x13_2).f1)).bind fun t330 => (if t330 = true then (if (x8_2.length : Int) = 10000 then (some (([] : List (List Int)), 4)) else ((g_row_Sub.f ((rd_T83 t308 x36_1).f1) ((rd_T83 t308 x13_2).f1)).bind fun bt332 => (if x8_2.length < 5864062014805 then (comma_List.l1 k2 t306 t307 t308 (x8_2 ++ [bt332.1]) t314 (x8_1.length : Int) (wrap64 (x13_2 - 1)) t308 (t308.length : Int) x36_1 ((rd_T83 t308 x36_1).f0) ((rd_T83 t308 x36_1).f1)) else (none)))) else (comma_List.l1 k2 t306 t307 t308 x8_2 t314 (x8_1.length : Int) (wrap64 (x13_2 - 1)) t308 (t308.length : Int) x36_1 ((rd_T83 t308 x36_1).f0) ((rd_T83 t308 x36_1).f1)))))) = some (r1, r2) := H
            have A29 := Aside0.mk A290
            clear A290
            replace H := Option.bind_eq_some_iff.mp H
            obtain ⟨t323, A300, H⟩ := H
            replace H : (if t323 > 0 then (if 0 ≤ (x8_1.length : Int) then (if (x8_1.length : Int) ≤ (x8_2.length : Int) then ((g_rev_Row.f x8_2 (x8_1.length : Int)).bind fun z_ => (comma_List.l0 k2 t306 t307 t308 z_ t308 (t308.length : Int) (wrap64 (x36_1 + 1)))) else (none)) else (none)) else ((comma_apart.f k2 ((rd_T83 t308 x36_1).f0) ((rd_T83 t308 x36_1).f1) ((rd_T83 t308 x13_2).f0) ((rd_T83 t308 x13_2).f1)).bind fun t330 => (if t330 = true then (if (x8_2.length : Int) = 10000 then (some (([] : List (List Int)), 4)) else ((g_row_Sub.f ((rd_T83 t308 x36_1).f1) ((rd_T83 t308 x13_2).f1)).bind fun bt332 => (if x8_2.length < 5864062014805 then (comma_List.l1 k2 t306 t307 t308 (x8_2 ++ [bt332.1]) t314 (x8_1.length : Int) (wrap64 (x13_2 - 1)) t308 (t308.length : Int) x36_1 ((rd_T83 t308 x36_1).f0) ((rd_T83 t308 x36_1).f1)) else (none)))) else (comma_List.l1 k2 t306 t307 t308 x8_2 t314 (x8_1.length : Int) (wrap64 (x13_2 - 1)) t308 (t308.length : Int) x36_1 ((rd_T83 t308 x36_1).f0) ((rd_T83 t308 x36_1).f1))))) = some (r1, r2) := H
            have A30 := Aside0.mk A300
            clear A300
            by_cases c31 : t323 > 0
            ·rw [if_pos c31] at H
             have c31b0 : decide (0 < t323) = true := decide_eq_true c31
             clear c31
             by_cases c32 : 0 ≤ (x8_1.length : Int)
             ·rw [if_pos c32] at H
              have c32b0 := eq_true c32
              have c32b1 : decide (0 ≤ (x8_1.length : Int)) = true := decide_eq_true c32
              clear c32
              by_cases c33 : (x8_1.length : Int) ≤ (x8_2.length : Int)
              ·rw [if_pos c33] at H
               have c33b0 := eq_true c33
               have c33b1 : decide ((x8_1.length : Int) ≤ (x8_2.length : Int)) = true := decide_eq_true c33
               clear c33
               obtain ⟨y324, hy324⟩ : ∃ y_ : List (List Int), y_ = (x8_2.drop ((x8_1.length : Int) : Int).toNat) := ⟨_, rfl⟩
               replace H : ((g_rev_Row.f x8_2 (x8_1.length : Int)).bind fun z_ => (comma_List.l0 k2 t306 t307 t308 z_ t308 (t308.length : Int) (wrap64 (x36_1 + 1)))) = some (r1, r2) := by first | (rw [hy324]; exact H) | exact H
               have Ny324 := Aside0.mk hy324
               clear hy324
               replace H := Option.bind_eq_some_iff.mp H
               obtain ⟨z_, A340, H⟩ := H
               replace H : (comma_List.l0 k2 t306 t307 t308 z_ t308 (t308.length : Int) (wrap64 (x36_1 + 1))) = some (r1, r2) := H
               have A34 := Aside0.mk A340
               clear A340
               have H' := Aside0.mk H
               clear H
               have p320 : 0 ≤ (x13_2 : Int) := of_decide_eq_true (by with_reducible assumption)
               have q320 : x13_2 < (t308.length : Int) := of_decide_eq_true (by with_reducible assumption)
               obtain ⟨ad320, A320_1, c320_1, e320, hx320_0, hx320_1, hl320_1, hi320_1⟩ := at_T83 (Kd.N_reads' HO_7.out).2.2 x13_2 p320 q320
               obtain rfl : ad311 = ad320 := (by injection e320)
               obtain ⟨ce320, hce320, hMe320, hcc320⟩ := Kd.N_get HO_7.out z83 x13_2 p320 (by first | exact q320 | exact of_decide_eq_true (by with_reducible assumption) | (have e_ := (Kd.N_reads' HO_7.out).1; omega))
               obtain ⟨ua320_1, uc320_1, rfl, ul320_1, ge320_1⟩ := k83_openF hMe320
               have hv320_1 := hcc320 1 _ rfl
               rw [add_field _ _ 1 (by omega)] at hv320_1
               replace hv320_1 := Option.some.inj (hv320_1.symm.trans hx320_1)
               injection hv320_1 with hva_ hvn_ hvc_
               rw [hva_] at ge320_1
               rw [hvc_] at ul320_1
               have HL320_1 := Aside0.mk (show Kd.V (Kd.int .i64) 3 _ w.heap.size _ _ ((rd_T83 t308 x13_2).f1) from Kd.V_mk ul320_1 ge320_1)
               clear hva_ hvn_ hvc_ ge320_1 ul320_1
               clear hcc320 hce320
               have HR320_1 := Aside0.mk hi320_1
               have HC320_1 := Aside0.mk hl320_1
               clear hi320_1 hl320_1
               replace p320 := eq_true p320
               replace q320 := eq_true q320
               go_wp2_with (first | ((with_reducible refine gate_callee (f := 41) rfl ?_); refine goesL_ (some 60) rfl rfl Tryz.func41 (by kernel_rfl) rfl #[.int .i64 ((rd_T83 t308 x13_2).f0)] rfl (by (try simp only [List.map_toArray, List.map_cons, List.map_nil]); first | done | rfl | (simp only [List.length_drop, List.length_take]; rfl)) ?_; (with_reducible refine (g_whole_Of.calls ((rd_T83 t308 x13_2).f0) t321 _ ?side1 A28.out).mono ?_); (case side1 => exact Glob.below HG.out (by repeat (first | (with_reducible first | exact HB.out | apply below_alloc | apply pw_below_drewN | apply below_drew1 | refine below_set ?_ GE304.out | refine below_set ?_ GE312.out) | exact HB.out))); rintro e w35 ⟨rfl, hb⟩; refine ⟨_, rfl, ?_⟩; have n0_ := Aside0.mk (Kd.N_below (by (with_reducible repeat (first | apply Kd.N_alloc | apply Kd.N_drewN | apply Kd.N_drew)); exact HO_7.out) hb); have n1_ := Aside0.mk (Kd.N_below (by (with_reducible repeat (first | apply Kd.N_alloc | apply Kd.N_drewN | apply Kd.N_drew)); exact HO_8.out) hb); have n2_ := Aside0.mk (Kd.N_below (by (with_reducible repeat (first | apply Kd.N_alloc | apply Kd.N_drewN | apply Kd.N_drew)); exact HO_34.out) hb); have n3_ := Aside0.mk (Kd.V_below (by (with_reducible repeat (first | apply Kd.V_alloc | apply Kd.V_drewN | apply Kd.V_drew)); exact HL320_1.out) hb); have nq_ := Aside0.mk (Kd.V_below (by (with_reducible repeat (first | apply Kd.V_alloc | apply Kd.V_drewN | apply Kd.V_drew)); exact HLa_.out) hb); clear HLa_; have HLa_ := nq_; clear nq_; have n4_ := Aside0.mk (blk_below (g := gb304) (o := .cells #[.slice A0_0 l0_0.length c0_0, .int .i64 a0_1, .slice A0_2 l0_2.length c0_2] 32 (0, 0)) (by (with_reducible repeat (first | refine blk_drewN ?_ _ | refine blk_drew ?_ | refine blk_alloc ?_ _)); exact BK304.out) hb); have n5_ := Aside0.mk (blk_below (g := gb312) (o := .cells #[.int .i64 ((rd_T83 t308 x36_1).f0), .slice A311_1 ((rd_T83 t308 x36_1).f1).length c311_1] 83 (0, 0)) (by (with_reducible repeat (first | refine blk_drewN ?_ _ | refine blk_drew ?_ | refine blk_alloc ?_ _)); exact BK312.out) hb); have n6_ := Aside0.mk (Kd.C_below (by repeat (first | (with_reducible exact HR320_1.out) | (with_reducible refine Kd.C_alloc ?_ _) | (with_reducible refine Kd.C_drewN ?_ _) | (with_reducible refine Kd.C_drew ?_) | exact HR320_1.out)) hb); have n7_ := Aside0.mk (below_step (by repeat (first | (with_reducible first | exact HB.out | apply below_alloc | apply pw_below_drewN | apply below_drew1 | refine below_set ?_ GE304.out | refine below_set ?_ GE312.out) | exact HB.out)) hb); clear HO_7; clear HO_8; clear HO_34; clear HL320_1; clear BK304; clear BK312; clear HR320_1; clear HB; have HO_7 := n0_; have HO_8 := n1_; have HO_34 := n2_; have HL320_1 := n3_; have BK304 := n4_; have BK312 := n5_; have HR320_1 := n6_; have HB := n7_; clear n0_ n1_ n2_ n3_ n4_ n5_ n6_ n7_; (try clear hb); (try clear hb2); (try clear hk); (try clear hi)) | ((with_reducible refine gate_callee (f := 40) rfl ?_); refine goesL_ (some 62) rfl rfl Tryz.func40 (by kernel_rfl) rfl #[.string t321, .string t306] rfl (by (try simp only [List.map_toArray, List.map_cons, List.map_nil]); first | done | rfl | (simp only [List.length_drop, List.length_take]; rfl)) ?_; (with_reducible refine (whole_Mul.calls k2 t321 t306 t322 _ ?side1 A29.out).mono ?_); (case side1 => exact Glob.below HG.out (by repeat (first | (with_reducible first | exact HB.out | apply below_alloc | apply pw_below_drewN | apply below_drew1 | refine below_set ?_ GE304.out | refine below_set ?_ GE312.out) | exact HB.out))); rintro e w36 ⟨rfl, hb⟩; refine ⟨_, rfl, ?_⟩; have n0_ := Aside0.mk (Kd.N_below (by (with_reducible repeat (first | apply Kd.N_alloc | apply Kd.N_drewN | apply Kd.N_drew)); exact HO_7.out) hb); have n1_ := Aside0.mk (Kd.N_below (by (with_reducible repeat (first | apply Kd.N_alloc | apply Kd.N_drewN | apply Kd.N_drew)); exact HO_8.out) hb); have n2_ := Aside0.mk (Kd.N_below (by (with_reducible repeat (first | apply Kd.N_alloc | apply Kd.N_drewN | apply Kd.N_drew)); exact HO_34.out) hb); have n3_ := Aside0.mk (Kd.V_below (by (with_reducible repeat (first | apply Kd.V_alloc | apply Kd.V_drewN | apply Kd.V_drew)); exact HL320_1.out) hb); have nq_ := Aside0.mk (Kd.V_below (by (with_reducible repeat (first | apply Kd.V_alloc | apply Kd.V_drewN | apply Kd.V_drew)); exact HLa_.out) hb); clear HLa_; have HLa_ := nq_; clear nq_; have n4_ := Aside0.mk (blk_below (g := gb304) (o := .cells #[.slice A0_0 l0_0.length c0_0, .int .i64 a0_1, .slice A0_2 l0_2.length c0_2] 32 (0, 0)) (by (with_reducible repeat (first | refine blk_drewN ?_ _ | refine blk_drew ?_ | refine blk_alloc ?_ _)); exact BK304.out) hb); have n5_ := Aside0.mk (blk_below (g := gb312) (o := .cells #[.int .i64 ((rd_T83 t308 x36_1).f0), .slice A311_1 ((rd_T83 t308 x36_1).f1).length c311_1] 83 (0, 0)) (by (with_reducible repeat (first | refine blk_drewN ?_ _ | refine blk_drew ?_ | refine blk_alloc ?_ _)); exact BK312.out) hb); have n6_ := Aside0.mk (Kd.C_below (by repeat (first | (with_reducible exact HR320_1.out) | (with_reducible refine Kd.C_alloc ?_ _) | (with_reducible refine Kd.C_drewN ?_ _) | (with_reducible refine Kd.C_drew ?_) | exact HR320_1.out)) hb); have n7_ := Aside0.mk (below_step (by repeat (first | (with_reducible first | exact HB.out | apply below_alloc | apply pw_below_drewN | apply below_drew1 | refine below_set ?_ GE304.out | refine below_set ?_ GE312.out) | exact HB.out)) hb); clear HO_7; clear HO_8; clear HO_34; clear HL320_1; clear BK304; clear BK312; clear HR320_1; clear HB; have HO_7 := n0_; have HO_8 := n1_; have HO_34 := n2_; have HL320_1 := n3_; have BK304 := n4_; have BK312 := n5_; have HR320_1 := n6_; have HB := n7_; clear n0_ n1_ n2_ n3_ n4_ n5_ n6_ n7_; (try clear hb); (try clear hb2); (try clear hk); (try clear hi)) | ((with_reducible refine gate_callee (f := 37) rfl ?_); refine goesL_ (some 63) rfl rfl Tryz.func37 (by kernel_rfl) rfl #[.string t314, .string t322] rfl (by (try simp only [List.map_toArray, List.map_cons, List.map_nil]); first | done | rfl | (simp only [List.length_drop, List.length_take]; rfl)) ?_; (with_reducible refine (whole_Compare.calls t314 t322 t323 _ A30.out).mono ?_); rintro e w37 ⟨rfl, hb⟩; refine ⟨_, rfl, ?_⟩; have n0_ := Aside0.mk (Kd.N_below (by (with_reducible repeat (first | apply Kd.N_alloc | apply Kd.N_drewN | apply Kd.N_drew)); exact HO_7.out) hb); have n1_ := Aside0.mk (Kd.N_below (by (with_reducible repeat (first | apply Kd.N_alloc | apply Kd.N_drewN | apply Kd.N_drew)); exact HO_8.out) hb); have n2_ := Aside0.mk (Kd.N_below (by (with_reducible repeat (first | apply Kd.N_alloc | apply Kd.N_drewN | apply Kd.N_drew)); exact HO_34.out) hb); have n3_ := Aside0.mk (Kd.V_below (by (with_reducible repeat (first | apply Kd.V_alloc | apply Kd.V_drewN | apply Kd.V_drew)); exact HL320_1.out) hb); have nq_ := Aside0.mk (Kd.V_below (by (with_reducible repeat (first | apply Kd.V_alloc | apply Kd.V_drewN | apply Kd.V_drew)); exact HLa_.out) hb); clear HLa_; have HLa_ := nq_; clear nq_; have n4_ := Aside0.mk (blk_below (g := gb304) (o := .cells #[.slice A0_0 l0_0.length c0_0, .int .i64 a0_1, .slice A0_2 l0_2.length c0_2] 32 (0, 0)) (by (with_reducible repeat (first | refine blk_drewN ?_ _ | refine blk_drew ?_ | refine blk_alloc ?_ _)); exact BK304.out) hb); have n5_ := Aside0.mk (blk_below (g := gb312) (o := .cells #[.int .i64 ((rd_T83 t308 x36_1).f0), .slice A311_1 ((rd_T83 t308 x36_1).f1).length c311_1] 83 (0, 0)) (by (with_reducible repeat (first | refine blk_drewN ?_ _ | refine blk_drew ?_ | refine blk_alloc ?_ _)); exact BK312.out) hb); have n6_ := Aside0.mk (Kd.C_below (by repeat (first | (with_reducible exact HR320_1.out) | (with_reducible refine Kd.C_alloc ?_ _) | (with_reducible refine Kd.C_drewN ?_ _) | (with_reducible refine Kd.C_drew ?_) | exact HR320_1.out)) hb); have n7_ := Aside0.mk (below_step (by repeat (first | (with_reducible first | exact HB.out | apply below_alloc | apply pw_below_drewN | apply below_drew1 | refine below_set ?_ GE304.out | refine below_set ?_ GE312.out) | exact HB.out)) hb); clear HO_7; clear HO_8; clear HO_34; clear HL320_1; clear BK304; clear BK312; clear HR320_1; clear HB; have HO_7 := n0_; have HO_8 := n1_; have HO_34 := n2_; have HL320_1 := n3_; have BK304 := n4_; have BK312 := n5_; have HR320_1 := n6_; have HB := n7_; clear n0_ n1_ n2_ n3_ n4_ n5_ n6_ n7_; (try clear hb); (try clear hb2); (try clear hk); (try clear hi); obtain ⟨Ao39, co39, eo39⟩ := Kd.N_slice HO_8.out; subst eo39; have q38 : ((x8_1.length : Int) : Int) ≤ ((x8_2.length : Int) : Int) := of_decide_eq_true (by with_reducible assumption); obtain ⟨i038, hi038, _, hsz38, _⟩ := info_parts info30; have hroom38 : x8_2.length ≤ co39 := (Kd.N_reads' HO_8.out).2.1; have hC38 : Kd.F (Kd.slice 3 (Kd.int .i64)) _ _ Ao39 x8_2.length x8_2 := (Kd.V_at (base := w.heap.size) (Kd.N_V HO_8.out)).2.2; have q038 : (0 : Int) ≤ ((x8_1.length : Int) : Int) := of_decide_eq_true (by with_reducible assumption); have hcut38 := cut_from (P := Tryz.prog) 36 30 .i64 Tryz.underlying36 hi038 1 hsz38 Ao39 x8_2.length co39 (x8_1.length : Int) q038 q38; have hr38 := Kd.F_cut (m := ((x8_1.length : Int) : Int).toNat) (c := co39) hC38 (by omega) hroom38; obtain ⟨A38, hA38⟩ : ∃ A1, A1 = (if co39 = ((x8_1.length : Int) : Int).toNat then Ao39 else (Ao39 : Option Addr).map (·.add (((x8_1.length : Int) : Int).toNat * 1))) := ⟨_, rfl⟩; obtain ⟨c38, hc38⟩ : ∃ c1, c1 = co39 - ((x8_1.length : Int) : Int).toNat := ⟨_, rfl⟩; have hy38 : y324.length = x8_2.length - ((x8_1.length : Int) : Int).toNat := (by rw [Ny324.out, List.length_drop] <;> omega); rw [show (x8_2).drop ((x8_1.length : Int) : Int).toNat = y324 from Ny324.out.symm] at hr38; replace hr38 : Kd.F (Kd.slice 3 (Kd.int .i64)) _ _ A38 y324.length y324 := (by rw [hA38]; exact hr38); rw [← hy38, ← hA38, ← hc38] at hcut38; have HO328 := Aside0.mk (show Kd.V (Kd.slice 3 (Kd.int .i64)) 30 _ w.heap.size _ (.slice A38 y324.length c38) y324 from Kd.V_mk (by rw [hy38, hc38]; exact Nat.sub_le_sub_right hroom38 _) hr38); have HC328 := Aside0.mk (show y324.length ≤ c38 from by rw [hy38, hc38]; exact Nat.sub_le_sub_right hroom38 _); clear hr38 hC38 hroom38 hi038 hsz38 hc38; have KY38 := Aside0.mk hy38; have KA38 := Aside0.mk hA38; clear hy38 hA38; replace q38 := eq_true q38) | ((with_reducible refine gate_callee (f := 44) rfl ?_); refine goesL_ (some 93) rfl rfl Tryz.func44 (by kernel_rfl) rfl #[.slice A38 y324.length c38] rfl (by (try simp only [List.map_toArray, List.map_cons, List.map_nil]); first | done | rfl | (simp only [List.length_drop, List.length_take]; rfl)) ?_; (with_reducible refine (g_rev_Row.calls (by (with_reducible repeat (first | apply Kd.N_alloc | apply Kd.N_drewN | apply Kd.N_drew)); exact HO_8.out) KA38.out KY38.out A34.out).mono ?_); rintro e w9_ ⟨rfl, HO9_, hb9_, hg9_⟩; refine ⟨_, rfl, ?_⟩; have n0_ := Aside0.mk (Kd.N_grown (by (with_reducible repeat (first | apply Kd.N_alloc | apply Kd.N_drewN | apply Kd.N_drew)); exact HO_7.out) hg9_ (by intro k_ hk; exact hk.2.1)); have n1_ := Aside0.mk (Kd.N_grown (by (with_reducible repeat (first | apply Kd.N_alloc | apply Kd.N_drewN | apply Kd.N_drew)); exact HO_34.out) hg9_ (by intro k_ hk; exact hk.2.1)); have n2_ := Aside0.mk (blk_grown (by (with_reducible repeat (first | refine blk_drewN ?_ _ | refine blk_drew ?_ | refine blk_alloc ?_ _)); exact BK304.out) hg9_ (Kd.N_ne HO_8.out BK304.out (by decide))); have n3_ := Aside0.mk (blk_grown (by (with_reducible repeat (first | refine blk_drewN ?_ _ | refine blk_drew ?_ | refine blk_alloc ?_ _)); exact BK312.out) hg9_ (Kd.N_ne HO_8.out BK312.out (by decide))); have n4_ := Aside0.mk (Below.trans (by repeat (first | (with_reducible first | exact HB.out | apply below_alloc | apply pw_below_drewN | apply below_drew1 | refine below_set ?_ GE304.out | refine below_set ?_ GE312.out) | exact HB.out)) hb9_); have n5_ := Aside0.mk HO9_; clear HO_7 HO_34 BK304 BK312 HB HO_8; have HO_7 := n0_; have HO_34 := n1_; have BK304 := n2_; have BK312 := n3_; have HB := n4_; have HO_8 := n5_; clear n0_ n1_ n2_ n3_ n4_ n5_ HO9_ hb9_ hg9_))
               go_roundg k2
               case measure => have := HK1.out; have := HK2.out; omega
               case rel => exact ⟨(z_), (wrap64 (x36_1 + 1)), (by first | rfl | (simp; done) | (simp [*]; done)), H', ⟨by have := HK1.out; have := HK2.out; omega⟩, ⟨by (with_reducible repeat (first | apply Kd.N_alloc | apply Kd.N_drewN | apply Kd.N_drew)); exact Kd.N_mono HO_7.out (fun _ hk => ⟨hk.1, ⟨hk.2.1, hk.2.2.1⟩⟩)⟩, ⟨by (with_reducible repeat (first | apply Kd.N_alloc | apply Kd.N_drewN | apply Kd.N_drew)); exact Kd.N_mono HO_8.out (fun _ hk => ⟨hk.1, ⟨hk.2.1, ⟨hk.2.2.1, hk.2.2.2.1⟩⟩⟩)⟩, ⟨by (with_reducible repeat (first | apply Kd.N_alloc | apply Kd.N_drewN | apply Kd.N_drew)); exact Kd.N_mono HO_34.out (fun _ hk => ⟨hk.1, ⟨hk.2.1, hk.2.2.1⟩⟩)⟩, ⟨by (with_reducible repeat (first | refine blk_drewN ?_ _ | refine blk_drew ?_ | refine blk_alloc ?_ _)); exact BK304.out⟩, ⟨by repeat (first | (with_reducible first | exact HB.out | apply below_alloc | apply pw_below_drewN | apply below_drew1 | refine below_set ?_ GE304.out | refine below_set ?_ GE312.out) | exact HB.out)⟩⟩
              ·rw [if_neg c33] at H
               exact absurd H (by simp)
             ·rw [if_neg c32] at H
              exact absurd H (by simp)
            ·rw [if_neg c31] at H
             have c31b0 : decide (0 < t323) = false := decide_eq_false c31
             clear c31
             replace H := Option.bind_eq_some_iff.mp H
             obtain ⟨t330, A400, H⟩ := H
             replace H : (if t330 = true then (if (x8_2.length : Int) = 10000 then (some (([] : List (List Int)), 4)) else ((g_row_Sub.f ((rd_T83 t308 x36_1).f1) ((rd_T83 t308 x13_2).f1)).bind fun bt332 => (if x8_2.length < 5864062014805 then (comma_List.l1 k2 t306 t307 t308 (x8_2 ++ [bt332.1]) t314 (x8_1.length : Int) (wrap64 (x13_2 - 1)) t308 (t308.length : Int) x36_1 ((rd_T83 t308 x36_1).f0) ((rd_T83 t308 x36_1).f1)) else (none)))) else (comma_List.l1 k2 t306 t307 t308 x8_2 t314 (x8_1.length : Int) (wrap64 (x13_2 - 1)) t308 (t308.length : Int) x36_1 ((rd_T83 t308 x36_1).f0) ((rd_T83 t308 x36_1).f1))) = some (r1, r2) := H
             have A40 := Aside0.mk A400
             clear A400
             by_cases c41 : t330 = true
             ·subst c41
              have H1 : (if (x8_2.length : Int) = 10000 then (some (([] : List (List Int)), 4)) else ((g_row_Sub.f ((rd_T83 t308 x36_1).f1) ((rd_T83 t308 x13_2).f1)).bind fun bt332 => (if x8_2.length < 5864062014805 then (comma_List.l1 k2 t306 t307 t308 (x8_2 ++ [bt332.1]) t314 (x8_1.length : Int) (wrap64 (x13_2 - 1)) t308 (t308.length : Int) x36_1 ((rd_T83 t308 x36_1).f0) ((rd_T83 t308 x36_1).f1)) else (none)))) = some (r1, r2) := by rw [if_pos rfl] at H; exact H
              clear H
              have H := H1
              clear H1
              by_cases c42 : (x8_2.length : Int) = 10000
              ·rw [if_pos c42] at H
               have c42b0 : ((x8_2.length : Int) == 10000) = true := beq_iff_eq.mpr c42
               have c42b1 : ((x8_2.length : Int) != 10000) = false := bne_eq_false_iff_eq.mpr c42
               clear c42
               simp only [Option.some.injEq, Prod.mk.injEq] at H
               obtain ⟨rfl, rfl⟩ := H
               have p320 : 0 ≤ (x13_2 : Int) := of_decide_eq_true (by with_reducible assumption)
               have q320 : x13_2 < (t308.length : Int) := of_decide_eq_true (by with_reducible assumption)
               obtain ⟨ad320, A320_1, c320_1, e320, hx320_0, hx320_1, hl320_1, hi320_1⟩ := at_T83 (Kd.N_reads' HO_7.out).2.2 x13_2 p320 q320
               obtain rfl : ad311 = ad320 := (by injection e320)
               obtain ⟨ce320, hce320, hMe320, hcc320⟩ := Kd.N_get HO_7.out z83 x13_2 p320 (by first | exact q320 | exact of_decide_eq_true (by with_reducible assumption) | (have e_ := (Kd.N_reads' HO_7.out).1; omega))
               obtain ⟨ua320_1, uc320_1, rfl, ul320_1, ge320_1⟩ := k83_openF hMe320
               have hv320_1 := hcc320 1 _ rfl
               rw [add_field _ _ 1 (by omega)] at hv320_1
               replace hv320_1 := Option.some.inj (hv320_1.symm.trans hx320_1)
               injection hv320_1 with hva_ hvn_ hvc_
               rw [hva_] at ge320_1
               rw [hvc_] at ul320_1
               have HL320_1 := Aside0.mk (show Kd.V (Kd.int .i64) 3 _ w.heap.size _ _ ((rd_T83 t308 x13_2).f1) from Kd.V_mk ul320_1 ge320_1)
               clear hva_ hvn_ hvc_ ge320_1 ul320_1
               clear hcc320 hce320
               have HR320_1 := Aside0.mk hi320_1
               have HC320_1 := Aside0.mk hl320_1
               clear hi320_1 hl320_1
               replace p320 := eq_true p320
               replace q320 := eq_true q320
               try go_wp2_with (first | ((with_reducible refine gate_callee (f := 41) rfl ?_); refine goesL_ (some 60) rfl rfl Tryz.func41 (by kernel_rfl) rfl #[.int .i64 ((rd_T83 t308 x13_2).f0)] rfl (by (try simp only [List.map_toArray, List.map_cons, List.map_nil]); first | done | rfl | (simp only [List.length_drop, List.length_take]; rfl)) ?_; (with_reducible refine (g_whole_Of.calls ((rd_T83 t308 x13_2).f0) t321 _ ?side1 A28.out).mono ?_); (case side1 => exact Glob.below HG.out (by repeat (first | (with_reducible first | exact HB.out | apply below_alloc | apply pw_below_drewN | apply below_drew1 | refine below_set ?_ GE304.out | refine below_set ?_ GE312.out) | exact HB.out))); rintro e w43 ⟨rfl, hb⟩; refine ⟨_, rfl, ?_⟩; have n0_ := Aside0.mk (Kd.N_below (by (with_reducible repeat (first | apply Kd.N_alloc | apply Kd.N_drewN | apply Kd.N_drew)); exact HO_7.out) hb); have n1_ := Aside0.mk (Kd.N_below (by (with_reducible repeat (first | apply Kd.N_alloc | apply Kd.N_drewN | apply Kd.N_drew)); exact HO_8.out) hb); have n2_ := Aside0.mk (Kd.N_below (by (with_reducible repeat (first | apply Kd.N_alloc | apply Kd.N_drewN | apply Kd.N_drew)); exact HO_34.out) hb); have n3_ := Aside0.mk (Kd.V_below (by (with_reducible repeat (first | apply Kd.V_alloc | apply Kd.V_drewN | apply Kd.V_drew)); exact HL320_1.out) hb); have nq_ := Aside0.mk (Kd.V_below (by (with_reducible repeat (first | apply Kd.V_alloc | apply Kd.V_drewN | apply Kd.V_drew)); exact HLa_.out) hb); clear HLa_; have HLa_ := nq_; clear nq_; have n4_ := Aside0.mk (blk_below (g := gb304) (o := .cells #[.slice A0_0 l0_0.length c0_0, .int .i64 a0_1, .slice A0_2 l0_2.length c0_2] 32 (0, 0)) (by (with_reducible repeat (first | refine blk_drewN ?_ _ | refine blk_drew ?_ | refine blk_alloc ?_ _)); exact BK304.out) hb); have n5_ := Aside0.mk (blk_below (g := gb312) (o := .cells #[.int .i64 ((rd_T83 t308 x36_1).f0), .slice A311_1 ((rd_T83 t308 x36_1).f1).length c311_1] 83 (0, 0)) (by (with_reducible repeat (first | refine blk_drewN ?_ _ | refine blk_drew ?_ | refine blk_alloc ?_ _)); exact BK312.out) hb); have n6_ := Aside0.mk (Kd.C_below (by repeat (first | (with_reducible exact HR320_1.out) | (with_reducible refine Kd.C_alloc ?_ _) | (with_reducible refine Kd.C_drewN ?_ _) | (with_reducible refine Kd.C_drew ?_) | exact HR320_1.out)) hb); have n7_ := Aside0.mk (below_step (by repeat (first | (with_reducible first | exact HB.out | apply below_alloc | apply pw_below_drewN | apply below_drew1 | refine below_set ?_ GE304.out | refine below_set ?_ GE312.out) | exact HB.out)) hb); clear HO_7; clear HO_8; clear HO_34; clear HL320_1; clear BK304; clear BK312; clear HR320_1; clear HB; have HO_7 := n0_; have HO_8 := n1_; have HO_34 := n2_; have HL320_1 := n3_; have BK304 := n4_; have BK312 := n5_; have HR320_1 := n6_; have HB := n7_; clear n0_ n1_ n2_ n3_ n4_ n5_ n6_ n7_; (try clear hb); (try clear hb2); (try clear hk); (try clear hi)) | ((with_reducible refine gate_callee (f := 40) rfl ?_); refine goesL_ (some 62) rfl rfl Tryz.func40 (by kernel_rfl) rfl #[.string t321, .string t306] rfl (by (try simp only [List.map_toArray, List.map_cons, List.map_nil]); first | done | rfl | (simp only [List.length_drop, List.length_take]; rfl)) ?_; (with_reducible refine (whole_Mul.calls k2 t321 t306 t322 _ ?side1 A29.out).mono ?_); (case side1 => exact Glob.below HG.out (by repeat (first | (with_reducible first | exact HB.out | apply below_alloc | apply pw_below_drewN | apply below_drew1 | refine below_set ?_ GE304.out | refine below_set ?_ GE312.out) | exact HB.out))); rintro e w44 ⟨rfl, hb⟩; refine ⟨_, rfl, ?_⟩; have n0_ := Aside0.mk (Kd.N_below (by (with_reducible repeat (first | apply Kd.N_alloc | apply Kd.N_drewN | apply Kd.N_drew)); exact HO_7.out) hb); have n1_ := Aside0.mk (Kd.N_below (by (with_reducible repeat (first | apply Kd.N_alloc | apply Kd.N_drewN | apply Kd.N_drew)); exact HO_8.out) hb); have n2_ := Aside0.mk (Kd.N_below (by (with_reducible repeat (first | apply Kd.N_alloc | apply Kd.N_drewN | apply Kd.N_drew)); exact HO_34.out) hb); have n3_ := Aside0.mk (Kd.V_below (by (with_reducible repeat (first | apply Kd.V_alloc | apply Kd.V_drewN | apply Kd.V_drew)); exact HL320_1.out) hb); have nq_ := Aside0.mk (Kd.V_below (by (with_reducible repeat (first | apply Kd.V_alloc | apply Kd.V_drewN | apply Kd.V_drew)); exact HLa_.out) hb); clear HLa_; have HLa_ := nq_; clear nq_; have n4_ := Aside0.mk (blk_below (g := gb304) (o := .cells #[.slice A0_0 l0_0.length c0_0, .int .i64 a0_1, .slice A0_2 l0_2.length c0_2] 32 (0, 0)) (by (with_reducible repeat (first | refine blk_drewN ?_ _ | refine blk_drew ?_ | refine blk_alloc ?_ _)); exact BK304.out) hb); have n5_ := Aside0.mk (blk_below (g := gb312) (o := .cells #[.int .i64 ((rd_T83 t308 x36_1).f0), .slice A311_1 ((rd_T83 t308 x36_1).f1).length c311_1] 83 (0, 0)) (by (with_reducible repeat (first | refine blk_drewN ?_ _ | refine blk_drew ?_ | refine blk_alloc ?_ _)); exact BK312.out) hb); have n6_ := Aside0.mk (Kd.C_below (by repeat (first | (with_reducible exact HR320_1.out) | (with_reducible refine Kd.C_alloc ?_ _) | (with_reducible refine Kd.C_drewN ?_ _) | (with_reducible refine Kd.C_drew ?_) | exact HR320_1.out)) hb); have n7_ := Aside0.mk (below_step (by repeat (first | (with_reducible first | exact HB.out | apply below_alloc | apply pw_below_drewN | apply below_drew1 | refine below_set ?_ GE304.out | refine below_set ?_ GE312.out) | exact HB.out)) hb); clear HO_7; clear HO_8; clear HO_34; clear HL320_1; clear BK304; clear BK312; clear HR320_1; clear HB; have HO_7 := n0_; have HO_8 := n1_; have HO_34 := n2_; have HL320_1 := n3_; have BK304 := n4_; have BK312 := n5_; have HR320_1 := n6_; have HB := n7_; clear n0_ n1_ n2_ n3_ n4_ n5_ n6_ n7_; (try clear hb); (try clear hb2); (try clear hk); (try clear hi)) | ((with_reducible refine gate_callee (f := 37) rfl ?_); refine goesL_ (some 63) rfl rfl Tryz.func37 (by kernel_rfl) rfl #[.string t314, .string t322] rfl (by (try simp only [List.map_toArray, List.map_cons, List.map_nil]); first | done | rfl | (simp only [List.length_drop, List.length_take]; rfl)) ?_; (with_reducible refine (whole_Compare.calls t314 t322 t323 _ A30.out).mono ?_); rintro e w45 ⟨rfl, hb⟩; refine ⟨_, rfl, ?_⟩; have n0_ := Aside0.mk (Kd.N_below (by (with_reducible repeat (first | apply Kd.N_alloc | apply Kd.N_drewN | apply Kd.N_drew)); exact HO_7.out) hb); have n1_ := Aside0.mk (Kd.N_below (by (with_reducible repeat (first | apply Kd.N_alloc | apply Kd.N_drewN | apply Kd.N_drew)); exact HO_8.out) hb); have n2_ := Aside0.mk (Kd.N_below (by (with_reducible repeat (first | apply Kd.N_alloc | apply Kd.N_drewN | apply Kd.N_drew)); exact HO_34.out) hb); have n3_ := Aside0.mk (Kd.V_below (by (with_reducible repeat (first | apply Kd.V_alloc | apply Kd.V_drewN | apply Kd.V_drew)); exact HL320_1.out) hb); have nq_ := Aside0.mk (Kd.V_below (by (with_reducible repeat (first | apply Kd.V_alloc | apply Kd.V_drewN | apply Kd.V_drew)); exact HLa_.out) hb); clear HLa_; have HLa_ := nq_; clear nq_; have n4_ := Aside0.mk (blk_below (g := gb304) (o := .cells #[.slice A0_0 l0_0.length c0_0, .int .i64 a0_1, .slice A0_2 l0_2.length c0_2] 32 (0, 0)) (by (with_reducible repeat (first | refine blk_drewN ?_ _ | refine blk_drew ?_ | refine blk_alloc ?_ _)); exact BK304.out) hb); have n5_ := Aside0.mk (blk_below (g := gb312) (o := .cells #[.int .i64 ((rd_T83 t308 x36_1).f0), .slice A311_1 ((rd_T83 t308 x36_1).f1).length c311_1] 83 (0, 0)) (by (with_reducible repeat (first | refine blk_drewN ?_ _ | refine blk_drew ?_ | refine blk_alloc ?_ _)); exact BK312.out) hb); have n6_ := Aside0.mk (Kd.C_below (by repeat (first | (with_reducible exact HR320_1.out) | (with_reducible refine Kd.C_alloc ?_ _) | (with_reducible refine Kd.C_drewN ?_ _) | (with_reducible refine Kd.C_drew ?_) | exact HR320_1.out)) hb); have n7_ := Aside0.mk (below_step (by repeat (first | (with_reducible first | exact HB.out | apply below_alloc | apply pw_below_drewN | apply below_drew1 | refine below_set ?_ GE304.out | refine below_set ?_ GE312.out) | exact HB.out)) hb); clear HO_7; clear HO_8; clear HO_34; clear HL320_1; clear BK304; clear BK312; clear HR320_1; clear HB; have HO_7 := n0_; have HO_8 := n1_; have HO_34 := n2_; have HL320_1 := n3_; have BK304 := n4_; have BK312 := n5_; have HR320_1 := n6_; have HB := n7_; clear n0_ n1_ n2_ n3_ n4_ n5_ n6_ n7_; (try clear hb); (try clear hb2); (try clear hk); (try clear hi)))
               have n0_ := Aside0.mk (Kd.N_drew HO_7.out)
               have n1_ := Aside0.mk (Kd.N_drew HO_8.out)
               have n2_ := Aside0.mk (Kd.N_drew HO_34.out)
               have n3_ := Aside0.mk (Kd.V_drew HL320_1.out); have nq_ := Aside0.mk (Kd.V_drew HLa_.out); clear HLa_; have HLa_ := nq_; clear nq_
               have n4_ := Aside0.mk (blk_drew BK304.out)
               have n5_ := Aside0.mk (blk_drew BK312.out)
               have n6_ := Aside0.mk (Kd.C_drew HR320_1.out)
               have n7_ := Aside0.mk (below_drew1 HB.out)
               clear HO_7
               clear HO_8
               clear HO_34
               clear HL320_1
               clear BK304
               clear BK312
               clear HR320_1
               clear HB
               have HO_7 := n0_
               have HO_8 := n1_
               have HO_34 := n2_
               have HL320_1 := n3_
               have BK304 := n4_
               have BK312 := n5_
               have HR320_1 := n6_
               have HB := n7_
               clear n0_ n1_ n2_ n3_ n4_ n5_ n6_ n7_
               have p329 : 0 ≤ (x13_2 : Int) := of_decide_eq_true (by with_reducible assumption)
               have q329 : x13_2 < (t308.length : Int) := of_decide_eq_true (by with_reducible assumption)
               obtain ⟨ad329, A329_1, c329_1, e329, hx329_0, hx329_1, hl329_1, hi329_1⟩ := at_T83 (Kd.N_reads' HO_7.out).2.2 x13_2 p329 q329
               obtain rfl : ad311 = ad329 := (by injection e329)
               obtain ⟨ce329, hce329, hMe329, hcc329⟩ := Kd.N_get HO_7.out z83 x13_2 p329 (by first | exact q329 | exact of_decide_eq_true (by with_reducible assumption) | (have e_ := (Kd.N_reads' HO_7.out).1; omega))
               obtain ⟨ua329_1, uc329_1, rfl, ul329_1, ge329_1⟩ := k83_openF hMe329
               have hv329_1 := hcc329 1 _ rfl
               rw [add_field _ _ 1 (by omega)] at hv329_1
               replace hv329_1 := Option.some.inj (hv329_1.symm.trans hx329_1)
               injection hv329_1 with hva_ hvn_ hvc_
               rw [hva_] at ge329_1
               rw [hvc_] at ul329_1
               have HL329_1 := Aside0.mk (show Kd.V (Kd.int .i64) 3 _ w.heap.size _ _ ((rd_T83 t308 x13_2).f1) from Kd.V_mk ul329_1 ge329_1)
               clear hva_ hvn_ hvc_ ge329_1 ul329_1
               clear hcc329 hce329
               have HR329_1 := Aside0.mk hi329_1
               have HC329_1 := Aside0.mk hl329_1
               clear hi329_1 hl329_1
               replace p329 := eq_true p329
               replace q329 := eq_true q329
               refine start_ (n := 7) (S := fun w' => w'.cell? ⟨gb312, 0, none⟩ = some (.int .i64 ((rd_T83 t308 x36_1).f0)) ∧ w'.cell? ⟨gb312, 1, none⟩ = some (.slice A311_1 ((rd_T83 t308 x36_1).f1).length c311_1) ∧ w'.cell? (ad311.add ((x13_2).toNat * 2)) = some (.int .i64 ((rd_T83 t308 x13_2).f0)) ∧ w'.cell? ⟨(ad311.add ((x13_2).toNat * 2)).block, (ad311.add ((x13_2).toNat * 2)).off + 1, none⟩ = some (.slice A329_1 ((rd_T83 t308 x13_2).f1).length c329_1)) (ds := []) #[false, false, false, false, false, false, false] (by kernel_rfl) rfl rfl ⟨(blk_cell BK312.out 0).trans rfl, (blk_cell BK312.out 1).trans rfl, hx329_0, hx329_1⟩ (fun hHeld => ?_)
               generalize w45.drew = w46 at HLa_ HO_7 HO_8 HO_34 HL320_1 BK304 BK312 HR320_1 HB HL329_1 HR329_1 hx329_0 hx329_1 hHeld ⊢
               refine pure_ (i := 1) (N := some 66) (v := ?_) (a' := ?_) #[false, true, false, false, false, false, false] rfl rfl (by kernel_rfl) (fun _ _ _ h => h) (Or.inl ⟨by rfl, ?_⟩) ?_ ?_
               rotate_left
               ·intro w'
                go_simp
                with_reducible rfl
               rotate_left
               ·simp only [Act.put, List.setIfInBounds_toArray, List.set_cons_zero, List.set_cons_succ, i64_w, i32_w]
                rfl
               refine pure_ (i := 2) (N := some 67) (v := ?_) (a' := ?_) #[false, true, true, false, false, false, false] rfl rfl (by kernel_rfl) (fun _ _ _ h => h) (Or.inl ⟨by rfl, ?_⟩) ?_ ?_
               rotate_left
               ·intro w'
                go_simp
                with_reducible rfl
               rotate_left
               ·simp only [Act.put, List.setIfInBounds_toArray, List.set_cons_zero, List.set_cons_succ, i64_w, i32_w]
                rfl
               refine pure_ (i := 3) (N := some 68) (v := ?_) (a' := ?_) #[false, true, true, true, false, false, false] rfl rfl (by kernel_rfl) (fun _ _ _ h => h) (Or.inl ⟨by rfl, ?_⟩) ?_ ?_
               rotate_left
               ·intro w'
                go_simp
                with_reducible rfl
               rotate_left
               ·simp only [Act.put, List.setIfInBounds_toArray, List.set_cons_zero, List.set_cons_succ, i64_w, i32_w]
                rfl
               refine take_ (i := 0) (N := some 65) (v := ?_) (a' := ?_) #[true, true, true, true, false, false, false] rfl rfl (by kernel_rfl) (fun _ _ _ h => h) (Or.inl ⟨by rfl, ?_⟩) hHeld ?_ ?_
               rotate_left
               ·rintro w' ⟨s0, s1, s2, s3⟩
                go_simp
                with_reducible rfl
               rotate_left
               ·simp only [Act.put, List.setIfInBounds_toArray, List.set_cons_zero, List.set_cons_succ, i64_w, i32_w]
                rfl
               refine take_ (i := 4) (N := some 69) (v := ?_) (a' := ?_) #[true, true, true, true, true, false, false] rfl rfl (by kernel_rfl) (fun _ _ _ h => h) (Or.inl ⟨by rfl, ?_⟩) hHeld ?_ ?_
               rotate_left
               ·rintro w' ⟨s0, s1, s2, s3⟩
                go_simp
                with_reducible rfl
               rotate_left
               ·simp only [Act.put, List.setIfInBounds_toArray, List.set_cons_zero, List.set_cons_succ, i64_w, i32_w]
                rfl
               refine one_ (i := 5) (N := some 70) #[true, true, true, true, true, true, false] rfl rfl (by kernel_rfl) (by decide) (fun K hK => ?_)
               refine goes_ Tryz.func42 (by kernel_rfl) rfl #[.agg #[.int .i64 ((rd_T83 t308 x36_1).f0), .slice A311_1 ((rd_T83 t308 x36_1).f1).length c311_1], .agg #[.int .i64 ((rd_T83 t308 x13_2).f0), .slice A329_1 ((rd_T83 t308 x13_2).f1).length c329_1]] (by rfl) rfl rfl (by (try simp only [List.map_toArray, List.map_cons, List.map_nil]); first | done | rfl | (simp only [List.length_drop, List.length_take]; rfl)) ?_
               with_reducible refine (comma_apart.calls k2 ((rd_T83 t308 x36_1).f0) _ _ ((rd_T83 t308 x36_1).f1) ((rd_T83 t308 x13_2).f0) _ _ ((rd_T83 t308 x13_2).f1) true _ ?side1 ?side2 ?side3 ?side4 A40.out).mono ?_
               (case side1 => repeat (first | exact ((Kd.V_reads' HLa_.out).2.2) | (with_reducible refine Kd.C_alloc ?_ _) | (with_reducible refine Kd.C_drewN ?_ _) | (with_reducible refine Kd.C_drew ?_)))
               (case side2 => exact HC311_1.out)
               (case side3 => repeat (first | exact (by repeat (first | (with_reducible exact HR329_1.out) | (with_reducible refine Kd.C_alloc ?_ _) | (with_reducible refine Kd.C_drewN ?_ _) | (with_reducible refine Kd.C_drew ?_) | exact HR329_1.out)) | (with_reducible refine Kd.C_alloc ?_ _) | (with_reducible refine Kd.C_drewN ?_ _) | (with_reducible refine Kd.C_drew ?_)))
               (case side4 => exact HC329_1.out)
               rintro e w47 ⟨rfl, hb⟩
               have HS2_ := (hb.cell (World.block_lt_of_cell? _ _ (hHeld.2.2.1))).trans (hHeld.2.2.1)
               have HS3_ := (hb.cell (World.block_lt_of_cell? _ _ (hHeld.2.2.2))).trans (hHeld.2.2.2)
               refine ⟨_, rfl, ?_⟩
               have n0_ := Aside0.mk (Kd.N_below (by (with_reducible repeat (first | apply Kd.N_alloc | apply Kd.N_drewN | apply Kd.N_drew)); exact HO_7.out) hb)
               have n1_ := Aside0.mk (Kd.N_below (by (with_reducible repeat (first | apply Kd.N_alloc | apply Kd.N_drewN | apply Kd.N_drew)); exact HO_8.out) hb)
               have n2_ := Aside0.mk (Kd.N_below (by (with_reducible repeat (first | apply Kd.N_alloc | apply Kd.N_drewN | apply Kd.N_drew)); exact HO_34.out) hb)
               have n3_ := Aside0.mk (Kd.V_below (by (with_reducible repeat (first | apply Kd.V_alloc | apply Kd.V_drewN | apply Kd.V_drew)); exact HL320_1.out) hb); have nq_ := Aside0.mk (Kd.V_below (by (with_reducible repeat (first | apply Kd.V_alloc | apply Kd.V_drewN | apply Kd.V_drew)); exact HLa_.out) hb); clear HLa_; have HLa_ := nq_; clear nq_
               have n4_ := Aside0.mk (Kd.V_below (by (with_reducible repeat (first | apply Kd.V_alloc | apply Kd.V_drewN | apply Kd.V_drew)); exact HL329_1.out) hb)
               have n5_ := Aside0.mk (blk_below (g := gb304) (o := .cells #[.slice A0_0 l0_0.length c0_0, .int .i64 a0_1, .slice A0_2 l0_2.length c0_2] 32 (0, 0)) (by (with_reducible repeat (first | refine blk_drewN ?_ _ | refine blk_drew ?_ | refine blk_alloc ?_ _)); exact BK304.out) hb)
               have n6_ := Aside0.mk (blk_below (g := gb312) (o := .cells #[.int .i64 ((rd_T83 t308 x36_1).f0), .slice A311_1 ((rd_T83 t308 x36_1).f1).length c311_1] 83 (0, 0)) (by (with_reducible repeat (first | refine blk_drewN ?_ _ | refine blk_drew ?_ | refine blk_alloc ?_ _)); exact BK312.out) hb)
               have n7_ := Aside0.mk (Kd.C_below (by repeat (first | (with_reducible exact HR320_1.out) | (with_reducible refine Kd.C_alloc ?_ _) | (with_reducible refine Kd.C_drewN ?_ _) | (with_reducible refine Kd.C_drew ?_) | exact HR320_1.out)) hb)
               have n8_ := Aside0.mk (Kd.C_below (by repeat (first | (with_reducible exact HR329_1.out) | (with_reducible refine Kd.C_alloc ?_ _) | (with_reducible refine Kd.C_drewN ?_ _) | (with_reducible refine Kd.C_drew ?_) | exact HR329_1.out)) hb)
               have n9_ := Aside0.mk (below_step (by repeat (first | (with_reducible first | exact HB.out | apply below_alloc | apply pw_below_drewN | apply below_drew1 | refine below_set ?_ GE304.out | refine below_set ?_ GE312.out) | exact HB.out)) hb)
               clear HO_7
               clear HO_8
               clear HO_34
               clear HL320_1
               clear HL329_1
               clear BK304
               clear BK312
               clear HR320_1
               clear HR329_1
               clear HB
               have HO_7 := n0_
               have HO_8 := n1_
               have HO_34 := n2_
               have HL320_1 := n3_
               have HL329_1 := n4_
               have BK304 := n5_
               have BK312 := n6_
               have HR320_1 := n7_
               have HR329_1 := n8_
               have HB := n9_
               clear n0_ n1_ n2_ n3_ n4_ n5_ n6_ n7_ n8_ n9_
               (try clear hb)
               (try clear hb2)
               (try clear hk)
               (try clear hi)
               refine hK.out _ _ ⟨(blk_cell BK312.out 0).trans rfl, (blk_cell BK312.out 1).trans rfl, HS2_, HS3_⟩ (fun hHeld => ?_)
               clear hK K
               refine norm_ (a' := ?_) ?_ ?_
               rotate_left
               ·show Act.put _ (some 70) _ = _
                simp only [Act.put, List.setIfInBounds_toArray, List.set_cons_zero, List.set_cons_succ, i64_w, i32_w]
                rfl
               refine pure_ (i := 6) (N := some 71) (v := ?_) (a' := ?_) #[true, true, true, true, true, true, true] rfl rfl (by kernel_rfl) (fun _ _ _ h => h) (Or.inl ⟨by rfl, ?_⟩) ?_ ?_
               rotate_left
               ·intro w'
                go_simp
                with_reducible rfl
               rotate_left
               ·simp only [Act.put, List.setIfInBounds_toArray, List.set_cons_zero, List.set_cons_succ, i64_w, i32_w]
                rfl
               refine done_ (by kernel_rfl) ?_
               obtain ⟨Ao48, co48, eo48⟩ := Kd.N_slice HO_8.out
               subst eo48
               try go_wp2
               go_ret2
               exact ⟨_, by first | rfl | (simp [errW_none, errW_some] <;> rfl) | (simp [*, errW_none, errW_some] <;> rfl), by first | exact Kd.S_nil _ _ _ _ _ | exact Kd.N_nil _ _ _ _ _ | exact Kd.V_nil _ _ _ _ _ | exact Kd.Q_nil _ _ _ _ _ | exact Kd.R_nil _ _ _ _ _, by repeat (first | (with_reducible first | exact HB.out | apply below_alloc | apply pw_below_drewN | apply below_drew1 | refine below_set ?_ GE304.out | refine below_set ?_ GE312.out) | exact HB.out)⟩
              ·rw [if_neg c42] at H
               have c42b0 : ((x8_2.length : Int) == 10000) = false := beq_eq_false_iff_ne.mpr c42
               have c42b1 : ((x8_2.length : Int) != 10000) = true := bne_iff_ne.mpr c42
               replace H := Option.bind_eq_some_iff.mp H
               obtain ⟨⟨t332, t333⟩, A490, H⟩ := H
               replace H : (if x8_2.length < 5864062014805 then (comma_List.l1 k2 t306 t307 t308 (x8_2 ++ [t332]) t314 (x8_1.length : Int) (wrap64 (x13_2 - 1)) t308 (t308.length : Int) x36_1 ((rd_T83 t308 x36_1).f0) ((rd_T83 t308 x36_1).f1)) else (none)) = some (r1, r2) := H
               have A49 := Aside0.mk A490
               clear A490
               by_cases c50 : x8_2.length < 5864062014805
               ·rw [if_pos c50] at H
                have LMc50 := Aside0.mk c50
                clear c50
                obtain ⟨y336, hy336⟩ : ∃ y_ : List (List Int), y_ = (x8_2 ++ [t332]) := ⟨_, rfl⟩
                replace H : (comma_List.l1 k2 t306 t307 t308 y336 t314 (x8_1.length : Int) (wrap64 (x13_2 - 1)) t308 (t308.length : Int) x36_1 ((rd_T83 t308 x36_1).f0) ((rd_T83 t308 x36_1).f1)) = some (r1, r2) := by first | (rw [hy336]; exact H) | exact H
                have Ny336 := Aside0.mk hy336
                clear hy336
                have H' := Aside0.mk H
                clear H
                have p320 : 0 ≤ (x13_2 : Int) := of_decide_eq_true (by with_reducible assumption)
                have q320 : x13_2 < (t308.length : Int) := of_decide_eq_true (by with_reducible assumption)
                obtain ⟨ad320, A320_1, c320_1, e320, hx320_0, hx320_1, hl320_1, hi320_1⟩ := at_T83 (Kd.N_reads' HO_7.out).2.2 x13_2 p320 q320
                obtain rfl : ad311 = ad320 := (by injection e320)
                obtain ⟨ce320, hce320, hMe320, hcc320⟩ := Kd.N_get HO_7.out z83 x13_2 p320 (by first | exact q320 | exact of_decide_eq_true (by with_reducible assumption) | (have e_ := (Kd.N_reads' HO_7.out).1; omega))
                obtain ⟨ua320_1, uc320_1, rfl, ul320_1, ge320_1⟩ := k83_openF hMe320
                have hv320_1 := hcc320 1 _ rfl
                rw [add_field _ _ 1 (by omega)] at hv320_1
                replace hv320_1 := Option.some.inj (hv320_1.symm.trans hx320_1)
                injection hv320_1 with hva_ hvn_ hvc_
                rw [hva_] at ge320_1
                rw [hvc_] at ul320_1
                have HL320_1 := Aside0.mk (show Kd.V (Kd.int .i64) 3 _ w.heap.size _ _ ((rd_T83 t308 x13_2).f1) from Kd.V_mk ul320_1 ge320_1)
                clear hva_ hvn_ hvc_ ge320_1 ul320_1
                clear hcc320 hce320
                have HR320_1 := Aside0.mk hi320_1
                have HC320_1 := Aside0.mk hl320_1
                clear hi320_1 hl320_1
                replace p320 := eq_true p320
                replace q320 := eq_true q320
                try go_wp2_with (first | ((with_reducible refine gate_callee (f := 41) rfl ?_); refine goesL_ (some 60) rfl rfl Tryz.func41 (by kernel_rfl) rfl #[.int .i64 ((rd_T83 t308 x13_2).f0)] rfl (by (try simp only [List.map_toArray, List.map_cons, List.map_nil]); first | done | rfl | (simp only [List.length_drop, List.length_take]; rfl)) ?_; (with_reducible refine (g_whole_Of.calls ((rd_T83 t308 x13_2).f0) t321 _ ?side1 A28.out).mono ?_); (case side1 => exact Glob.below HG.out (by repeat (first | (with_reducible first | exact HB.out | apply below_alloc | apply pw_below_drewN | apply below_drew1 | refine below_set ?_ GE304.out | refine below_set ?_ GE312.out) | exact HB.out))); rintro e w51 ⟨rfl, hb⟩; refine ⟨_, rfl, ?_⟩; have n0_ := Aside0.mk (Kd.N_below (by (with_reducible repeat (first | apply Kd.N_alloc | apply Kd.N_drewN | apply Kd.N_drew)); exact HO_7.out) hb); have n1_ := Aside0.mk (Kd.N_below (by (with_reducible repeat (first | apply Kd.N_alloc | apply Kd.N_drewN | apply Kd.N_drew)); exact HO_8.out) hb); have n2_ := Aside0.mk (Kd.N_below (by (with_reducible repeat (first | apply Kd.N_alloc | apply Kd.N_drewN | apply Kd.N_drew)); exact HO_34.out) hb); have n3_ := Aside0.mk (Kd.V_below (by (with_reducible repeat (first | apply Kd.V_alloc | apply Kd.V_drewN | apply Kd.V_drew)); exact HL320_1.out) hb); have nq_ := Aside0.mk (Kd.V_below (by (with_reducible repeat (first | apply Kd.V_alloc | apply Kd.V_drewN | apply Kd.V_drew)); exact HLa_.out) hb); clear HLa_; have HLa_ := nq_; clear nq_; have n4_ := Aside0.mk (blk_below (g := gb304) (o := .cells #[.slice A0_0 l0_0.length c0_0, .int .i64 a0_1, .slice A0_2 l0_2.length c0_2] 32 (0, 0)) (by (with_reducible repeat (first | refine blk_drewN ?_ _ | refine blk_drew ?_ | refine blk_alloc ?_ _)); exact BK304.out) hb); have n5_ := Aside0.mk (blk_below (g := gb312) (o := .cells #[.int .i64 ((rd_T83 t308 x36_1).f0), .slice A311_1 ((rd_T83 t308 x36_1).f1).length c311_1] 83 (0, 0)) (by (with_reducible repeat (first | refine blk_drewN ?_ _ | refine blk_drew ?_ | refine blk_alloc ?_ _)); exact BK312.out) hb); have n6_ := Aside0.mk (Kd.C_below (by repeat (first | (with_reducible exact HR320_1.out) | (with_reducible refine Kd.C_alloc ?_ _) | (with_reducible refine Kd.C_drewN ?_ _) | (with_reducible refine Kd.C_drew ?_) | exact HR320_1.out)) hb); have n7_ := Aside0.mk (below_step (by repeat (first | (with_reducible first | exact HB.out | apply below_alloc | apply pw_below_drewN | apply below_drew1 | refine below_set ?_ GE304.out | refine below_set ?_ GE312.out) | exact HB.out)) hb); clear HO_7; clear HO_8; clear HO_34; clear HL320_1; clear BK304; clear BK312; clear HR320_1; clear HB; have HO_7 := n0_; have HO_8 := n1_; have HO_34 := n2_; have HL320_1 := n3_; have BK304 := n4_; have BK312 := n5_; have HR320_1 := n6_; have HB := n7_; clear n0_ n1_ n2_ n3_ n4_ n5_ n6_ n7_; (try clear hb); (try clear hb2); (try clear hk); (try clear hi)) | ((with_reducible refine gate_callee (f := 40) rfl ?_); refine goesL_ (some 62) rfl rfl Tryz.func40 (by kernel_rfl) rfl #[.string t321, .string t306] rfl (by (try simp only [List.map_toArray, List.map_cons, List.map_nil]); first | done | rfl | (simp only [List.length_drop, List.length_take]; rfl)) ?_; (with_reducible refine (whole_Mul.calls k2 t321 t306 t322 _ ?side1 A29.out).mono ?_); (case side1 => exact Glob.below HG.out (by repeat (first | (with_reducible first | exact HB.out | apply below_alloc | apply pw_below_drewN | apply below_drew1 | refine below_set ?_ GE304.out | refine below_set ?_ GE312.out) | exact HB.out))); rintro e w52 ⟨rfl, hb⟩; refine ⟨_, rfl, ?_⟩; have n0_ := Aside0.mk (Kd.N_below (by (with_reducible repeat (first | apply Kd.N_alloc | apply Kd.N_drewN | apply Kd.N_drew)); exact HO_7.out) hb); have n1_ := Aside0.mk (Kd.N_below (by (with_reducible repeat (first | apply Kd.N_alloc | apply Kd.N_drewN | apply Kd.N_drew)); exact HO_8.out) hb); have n2_ := Aside0.mk (Kd.N_below (by (with_reducible repeat (first | apply Kd.N_alloc | apply Kd.N_drewN | apply Kd.N_drew)); exact HO_34.out) hb); have n3_ := Aside0.mk (Kd.V_below (by (with_reducible repeat (first | apply Kd.V_alloc | apply Kd.V_drewN | apply Kd.V_drew)); exact HL320_1.out) hb); have nq_ := Aside0.mk (Kd.V_below (by (with_reducible repeat (first | apply Kd.V_alloc | apply Kd.V_drewN | apply Kd.V_drew)); exact HLa_.out) hb); clear HLa_; have HLa_ := nq_; clear nq_; have n4_ := Aside0.mk (blk_below (g := gb304) (o := .cells #[.slice A0_0 l0_0.length c0_0, .int .i64 a0_1, .slice A0_2 l0_2.length c0_2] 32 (0, 0)) (by (with_reducible repeat (first | refine blk_drewN ?_ _ | refine blk_drew ?_ | refine blk_alloc ?_ _)); exact BK304.out) hb); have n5_ := Aside0.mk (blk_below (g := gb312) (o := .cells #[.int .i64 ((rd_T83 t308 x36_1).f0), .slice A311_1 ((rd_T83 t308 x36_1).f1).length c311_1] 83 (0, 0)) (by (with_reducible repeat (first | refine blk_drewN ?_ _ | refine blk_drew ?_ | refine blk_alloc ?_ _)); exact BK312.out) hb); have n6_ := Aside0.mk (Kd.C_below (by repeat (first | (with_reducible exact HR320_1.out) | (with_reducible refine Kd.C_alloc ?_ _) | (with_reducible refine Kd.C_drewN ?_ _) | (with_reducible refine Kd.C_drew ?_) | exact HR320_1.out)) hb); have n7_ := Aside0.mk (below_step (by repeat (first | (with_reducible first | exact HB.out | apply below_alloc | apply pw_below_drewN | apply below_drew1 | refine below_set ?_ GE304.out | refine below_set ?_ GE312.out) | exact HB.out)) hb); clear HO_7; clear HO_8; clear HO_34; clear HL320_1; clear BK304; clear BK312; clear HR320_1; clear HB; have HO_7 := n0_; have HO_8 := n1_; have HO_34 := n2_; have HL320_1 := n3_; have BK304 := n4_; have BK312 := n5_; have HR320_1 := n6_; have HB := n7_; clear n0_ n1_ n2_ n3_ n4_ n5_ n6_ n7_; (try clear hb); (try clear hb2); (try clear hk); (try clear hi)) | ((with_reducible refine gate_callee (f := 37) rfl ?_); refine goesL_ (some 63) rfl rfl Tryz.func37 (by kernel_rfl) rfl #[.string t314, .string t322] rfl (by (try simp only [List.map_toArray, List.map_cons, List.map_nil]); first | done | rfl | (simp only [List.length_drop, List.length_take]; rfl)) ?_; (with_reducible refine (whole_Compare.calls t314 t322 t323 _ A30.out).mono ?_); rintro e w53 ⟨rfl, hb⟩; refine ⟨_, rfl, ?_⟩; have n0_ := Aside0.mk (Kd.N_below (by (with_reducible repeat (first | apply Kd.N_alloc | apply Kd.N_drewN | apply Kd.N_drew)); exact HO_7.out) hb); have n1_ := Aside0.mk (Kd.N_below (by (with_reducible repeat (first | apply Kd.N_alloc | apply Kd.N_drewN | apply Kd.N_drew)); exact HO_8.out) hb); have n2_ := Aside0.mk (Kd.N_below (by (with_reducible repeat (first | apply Kd.N_alloc | apply Kd.N_drewN | apply Kd.N_drew)); exact HO_34.out) hb); have n3_ := Aside0.mk (Kd.V_below (by (with_reducible repeat (first | apply Kd.V_alloc | apply Kd.V_drewN | apply Kd.V_drew)); exact HL320_1.out) hb); have nq_ := Aside0.mk (Kd.V_below (by (with_reducible repeat (first | apply Kd.V_alloc | apply Kd.V_drewN | apply Kd.V_drew)); exact HLa_.out) hb); clear HLa_; have HLa_ := nq_; clear nq_; have n4_ := Aside0.mk (blk_below (g := gb304) (o := .cells #[.slice A0_0 l0_0.length c0_0, .int .i64 a0_1, .slice A0_2 l0_2.length c0_2] 32 (0, 0)) (by (with_reducible repeat (first | refine blk_drewN ?_ _ | refine blk_drew ?_ | refine blk_alloc ?_ _)); exact BK304.out) hb); have n5_ := Aside0.mk (blk_below (g := gb312) (o := .cells #[.int .i64 ((rd_T83 t308 x36_1).f0), .slice A311_1 ((rd_T83 t308 x36_1).f1).length c311_1] 83 (0, 0)) (by (with_reducible repeat (first | refine blk_drewN ?_ _ | refine blk_drew ?_ | refine blk_alloc ?_ _)); exact BK312.out) hb); have n6_ := Aside0.mk (Kd.C_below (by repeat (first | (with_reducible exact HR320_1.out) | (with_reducible refine Kd.C_alloc ?_ _) | (with_reducible refine Kd.C_drewN ?_ _) | (with_reducible refine Kd.C_drew ?_) | exact HR320_1.out)) hb); have n7_ := Aside0.mk (below_step (by repeat (first | (with_reducible first | exact HB.out | apply below_alloc | apply pw_below_drewN | apply below_drew1 | refine below_set ?_ GE304.out | refine below_set ?_ GE312.out) | exact HB.out)) hb); clear HO_7; clear HO_8; clear HO_34; clear HL320_1; clear BK304; clear BK312; clear HR320_1; clear HB; have HO_7 := n0_; have HO_8 := n1_; have HO_34 := n2_; have HL320_1 := n3_; have BK304 := n4_; have BK312 := n5_; have HR320_1 := n6_; have HB := n7_; clear n0_ n1_ n2_ n3_ n4_ n5_ n6_ n7_; (try clear hb); (try clear hb2); (try clear hk); (try clear hi)))
                have n0_ := Aside0.mk (Kd.N_drew HO_7.out)
                have n1_ := Aside0.mk (Kd.N_drew HO_8.out)
                have n2_ := Aside0.mk (Kd.N_drew HO_34.out)
                have n3_ := Aside0.mk (Kd.V_drew HL320_1.out); have nq_ := Aside0.mk (Kd.V_drew HLa_.out); clear HLa_; have HLa_ := nq_; clear nq_
                have n4_ := Aside0.mk (blk_drew BK304.out)
                have n5_ := Aside0.mk (blk_drew BK312.out)
                have n6_ := Aside0.mk (Kd.C_drew HR320_1.out)
                have n7_ := Aside0.mk (below_drew1 HB.out)
                clear HO_7
                clear HO_8
                clear HO_34
                clear HL320_1
                clear BK304
                clear BK312
                clear HR320_1
                clear HB
                have HO_7 := n0_
                have HO_8 := n1_
                have HO_34 := n2_
                have HL320_1 := n3_
                have BK304 := n4_
                have BK312 := n5_
                have HR320_1 := n6_
                have HB := n7_
                clear n0_ n1_ n2_ n3_ n4_ n5_ n6_ n7_
                have p329 : 0 ≤ (x13_2 : Int) := of_decide_eq_true (by with_reducible assumption)
                have q329 : x13_2 < (t308.length : Int) := of_decide_eq_true (by with_reducible assumption)
                obtain ⟨ad329, A329_1, c329_1, e329, hx329_0, hx329_1, hl329_1, hi329_1⟩ := at_T83 (Kd.N_reads' HO_7.out).2.2 x13_2 p329 q329
                obtain rfl : ad311 = ad329 := (by injection e329)
                obtain ⟨ce329, hce329, hMe329, hcc329⟩ := Kd.N_get HO_7.out z83 x13_2 p329 (by first | exact q329 | exact of_decide_eq_true (by with_reducible assumption) | (have e_ := (Kd.N_reads' HO_7.out).1; omega))
                obtain ⟨ua329_1, uc329_1, rfl, ul329_1, ge329_1⟩ := k83_openF hMe329
                have hv329_1 := hcc329 1 _ rfl
                rw [add_field _ _ 1 (by omega)] at hv329_1
                replace hv329_1 := Option.some.inj (hv329_1.symm.trans hx329_1)
                injection hv329_1 with hva_ hvn_ hvc_
                rw [hva_] at ge329_1
                rw [hvc_] at ul329_1
                have HL329_1 := Aside0.mk (show Kd.V (Kd.int .i64) 3 _ w.heap.size _ _ ((rd_T83 t308 x13_2).f1) from Kd.V_mk ul329_1 ge329_1)
                clear hva_ hvn_ hvc_ ge329_1 ul329_1
                clear hcc329 hce329
                have HR329_1 := Aside0.mk hi329_1
                have HC329_1 := Aside0.mk hl329_1
                clear hi329_1 hl329_1
                replace p329 := eq_true p329
                replace q329 := eq_true q329
                refine start_ (n := 7) (S := fun w' => w'.cell? ⟨gb312, 0, none⟩ = some (.int .i64 ((rd_T83 t308 x36_1).f0)) ∧ w'.cell? ⟨gb312, 1, none⟩ = some (.slice A311_1 ((rd_T83 t308 x36_1).f1).length c311_1) ∧ w'.cell? (ad311.add ((x13_2).toNat * 2)) = some (.int .i64 ((rd_T83 t308 x13_2).f0)) ∧ w'.cell? ⟨(ad311.add ((x13_2).toNat * 2)).block, (ad311.add ((x13_2).toNat * 2)).off + 1, none⟩ = some (.slice A329_1 ((rd_T83 t308 x13_2).f1).length c329_1)) (ds := []) #[false, false, false, false, false, false, false] (by kernel_rfl) rfl rfl ⟨(blk_cell BK312.out 0).trans rfl, (blk_cell BK312.out 1).trans rfl, hx329_0, hx329_1⟩ (fun hHeld => ?_)
                generalize w53.drew = w54 at HLa_ HO_7 HO_8 HO_34 HL320_1 BK304 BK312 HR320_1 HB HL329_1 HR329_1 hx329_0 hx329_1 hHeld ⊢
                refine pure_ (i := 1) (N := some 66) (v := ?_) (a' := ?_) #[false, true, false, false, false, false, false] rfl rfl (by kernel_rfl) (fun _ _ _ h => h) (Or.inl ⟨by rfl, ?_⟩) ?_ ?_
                rotate_left
                ·intro w'
                 go_simp
                 with_reducible rfl
                rotate_left
                ·simp only [Act.put, List.setIfInBounds_toArray, List.set_cons_zero, List.set_cons_succ, i64_w, i32_w]
                 rfl
                refine pure_ (i := 2) (N := some 67) (v := ?_) (a' := ?_) #[false, true, true, false, false, false, false] rfl rfl (by kernel_rfl) (fun _ _ _ h => h) (Or.inl ⟨by rfl, ?_⟩) ?_ ?_
                rotate_left
                ·intro w'
                 go_simp
                 with_reducible rfl
                rotate_left
                ·simp only [Act.put, List.setIfInBounds_toArray, List.set_cons_zero, List.set_cons_succ, i64_w, i32_w]
                 rfl
                refine pure_ (i := 3) (N := some 68) (v := ?_) (a' := ?_) #[false, true, true, true, false, false, false] rfl rfl (by kernel_rfl) (fun _ _ _ h => h) (Or.inl ⟨by rfl, ?_⟩) ?_ ?_
                rotate_left
                ·intro w'
                 go_simp
                 with_reducible rfl
                rotate_left
                ·simp only [Act.put, List.setIfInBounds_toArray, List.set_cons_zero, List.set_cons_succ, i64_w, i32_w]
                 rfl
                refine take_ (i := 0) (N := some 65) (v := ?_) (a' := ?_) #[true, true, true, true, false, false, false] rfl rfl (by kernel_rfl) (fun _ _ _ h => h) (Or.inl ⟨by rfl, ?_⟩) hHeld ?_ ?_
                rotate_left
                ·rintro w' ⟨s0, s1, s2, s3⟩
                 go_simp
                 with_reducible rfl
                rotate_left
                ·simp only [Act.put, List.setIfInBounds_toArray, List.set_cons_zero, List.set_cons_succ, i64_w, i32_w]
                 rfl
                refine take_ (i := 4) (N := some 69) (v := ?_) (a' := ?_) #[true, true, true, true, true, false, false] rfl rfl (by kernel_rfl) (fun _ _ _ h => h) (Or.inl ⟨by rfl, ?_⟩) hHeld ?_ ?_
                rotate_left
                ·rintro w' ⟨s0, s1, s2, s3⟩
                 go_simp
                 with_reducible rfl
                rotate_left
                ·simp only [Act.put, List.setIfInBounds_toArray, List.set_cons_zero, List.set_cons_succ, i64_w, i32_w]
                 rfl
                refine one_ (i := 5) (N := some 70) #[true, true, true, true, true, true, false] rfl rfl (by kernel_rfl) (by decide) (fun K hK => ?_)
                refine goes_ Tryz.func42 (by kernel_rfl) rfl #[.agg #[.int .i64 ((rd_T83 t308 x36_1).f0), .slice A311_1 ((rd_T83 t308 x36_1).f1).length c311_1], .agg #[.int .i64 ((rd_T83 t308 x13_2).f0), .slice A329_1 ((rd_T83 t308 x13_2).f1).length c329_1]] (by rfl) rfl rfl (by (try simp only [List.map_toArray, List.map_cons, List.map_nil]); first | done | rfl | (simp only [List.length_drop, List.length_take]; rfl)) ?_
                with_reducible refine (comma_apart.calls k2 ((rd_T83 t308 x36_1).f0) _ _ ((rd_T83 t308 x36_1).f1) ((rd_T83 t308 x13_2).f0) _ _ ((rd_T83 t308 x13_2).f1) true _ ?side1 ?side2 ?side3 ?side4 A40.out).mono ?_
                (case side1 => repeat (first | exact ((Kd.V_reads' HLa_.out).2.2) | (with_reducible refine Kd.C_alloc ?_ _) | (with_reducible refine Kd.C_drewN ?_ _) | (with_reducible refine Kd.C_drew ?_)))
                (case side2 => exact HC311_1.out)
                (case side3 => repeat (first | exact (by repeat (first | (with_reducible exact HR329_1.out) | (with_reducible refine Kd.C_alloc ?_ _) | (with_reducible refine Kd.C_drewN ?_ _) | (with_reducible refine Kd.C_drew ?_) | exact HR329_1.out)) | (with_reducible refine Kd.C_alloc ?_ _) | (with_reducible refine Kd.C_drewN ?_ _) | (with_reducible refine Kd.C_drew ?_)))
                (case side4 => exact HC329_1.out)
                rintro e w55 ⟨rfl, hb⟩
                have HS2_ := (hb.cell (World.block_lt_of_cell? _ _ (hHeld.2.2.1))).trans (hHeld.2.2.1)
                have HS3_ := (hb.cell (World.block_lt_of_cell? _ _ (hHeld.2.2.2))).trans (hHeld.2.2.2)
                refine ⟨_, rfl, ?_⟩
                have n0_ := Aside0.mk (Kd.N_below (by (with_reducible repeat (first | apply Kd.N_alloc | apply Kd.N_drewN | apply Kd.N_drew)); exact HO_7.out) hb)
                have n1_ := Aside0.mk (Kd.N_below (by (with_reducible repeat (first | apply Kd.N_alloc | apply Kd.N_drewN | apply Kd.N_drew)); exact HO_8.out) hb)
                have n2_ := Aside0.mk (Kd.N_below (by (with_reducible repeat (first | apply Kd.N_alloc | apply Kd.N_drewN | apply Kd.N_drew)); exact HO_34.out) hb)
                have n3_ := Aside0.mk (Kd.V_below (by (with_reducible repeat (first | apply Kd.V_alloc | apply Kd.V_drewN | apply Kd.V_drew)); exact HL320_1.out) hb); have nq_ := Aside0.mk (Kd.V_below (by (with_reducible repeat (first | apply Kd.V_alloc | apply Kd.V_drewN | apply Kd.V_drew)); exact HLa_.out) hb); clear HLa_; have HLa_ := nq_; clear nq_
                have n4_ := Aside0.mk (Kd.V_below (by (with_reducible repeat (first | apply Kd.V_alloc | apply Kd.V_drewN | apply Kd.V_drew)); exact HL329_1.out) hb)
                have n5_ := Aside0.mk (blk_below (g := gb304) (o := .cells #[.slice A0_0 l0_0.length c0_0, .int .i64 a0_1, .slice A0_2 l0_2.length c0_2] 32 (0, 0)) (by (with_reducible repeat (first | refine blk_drewN ?_ _ | refine blk_drew ?_ | refine blk_alloc ?_ _)); exact BK304.out) hb)
                have n6_ := Aside0.mk (blk_below (g := gb312) (o := .cells #[.int .i64 ((rd_T83 t308 x36_1).f0), .slice A311_1 ((rd_T83 t308 x36_1).f1).length c311_1] 83 (0, 0)) (by (with_reducible repeat (first | refine blk_drewN ?_ _ | refine blk_drew ?_ | refine blk_alloc ?_ _)); exact BK312.out) hb)
                have n7_ := Aside0.mk (Kd.C_below (by repeat (first | (with_reducible exact HR320_1.out) | (with_reducible refine Kd.C_alloc ?_ _) | (with_reducible refine Kd.C_drewN ?_ _) | (with_reducible refine Kd.C_drew ?_) | exact HR320_1.out)) hb)
                have n8_ := Aside0.mk (Kd.C_below (by repeat (first | (with_reducible exact HR329_1.out) | (with_reducible refine Kd.C_alloc ?_ _) | (with_reducible refine Kd.C_drewN ?_ _) | (with_reducible refine Kd.C_drew ?_) | exact HR329_1.out)) hb)
                have n9_ := Aside0.mk (below_step (by repeat (first | (with_reducible first | exact HB.out | apply below_alloc | apply pw_below_drewN | apply below_drew1 | refine below_set ?_ GE304.out | refine below_set ?_ GE312.out) | exact HB.out)) hb)
                clear HO_7
                clear HO_8
                clear HO_34
                clear HL320_1
                clear HL329_1
                clear BK304
                clear BK312
                clear HR320_1
                clear HR329_1
                clear HB
                have HO_7 := n0_
                have HO_8 := n1_
                have HO_34 := n2_
                have HL320_1 := n3_
                have HL329_1 := n4_
                have BK304 := n5_
                have BK312 := n6_
                have HR320_1 := n7_
                have HR329_1 := n8_
                have HB := n9_
                clear n0_ n1_ n2_ n3_ n4_ n5_ n6_ n7_ n8_ n9_
                (try clear hb)
                (try clear hb2)
                (try clear hk)
                (try clear hi)
                refine hK.out _ _ ⟨(blk_cell BK312.out 0).trans rfl, (blk_cell BK312.out 1).trans rfl, HS2_, HS3_⟩ (fun hHeld => ?_)
                clear hK K
                refine norm_ (a' := ?_) ?_ ?_
                rotate_left
                ·show Act.put _ (some 70) _ = _
                 simp only [Act.put, List.setIfInBounds_toArray, List.set_cons_zero, List.set_cons_succ, i64_w, i32_w]
                 rfl
                refine pure_ (i := 6) (N := some 71) (v := ?_) (a' := ?_) #[true, true, true, true, true, true, true] rfl rfl (by kernel_rfl) (fun _ _ _ h => h) (Or.inl ⟨by rfl, ?_⟩) ?_ ?_
                rotate_left
                ·intro w'
                 go_simp
                 with_reducible rfl
                rotate_left
                ·simp only [Act.put, List.setIfInBounds_toArray, List.set_cons_zero, List.set_cons_succ, i64_w, i32_w]
                 rfl
                refine done_ (by kernel_rfl) ?_
                obtain ⟨Ao56, co56, eo56⟩ := Kd.N_slice HO_8.out
                subst eo56
                try go_wp2
                have n0_ := Aside0.mk (Kd.N_drew HO_7.out)
                have n1_ := Aside0.mk (Kd.N_drew HO_8.out)
                have n2_ := Aside0.mk (Kd.N_drew HO_34.out)
                have n3_ := Aside0.mk (Kd.V_drew HL320_1.out); have nq_ := Aside0.mk (Kd.V_drew HLa_.out); clear HLa_; have HLa_ := nq_; clear nq_
                have n4_ := Aside0.mk (Kd.V_drew HL329_1.out)
                have n5_ := Aside0.mk (blk_drew BK304.out)
                have n6_ := Aside0.mk (blk_drew BK312.out)
                have n7_ := Aside0.mk (Kd.C_drew HR320_1.out)
                have n8_ := Aside0.mk (Kd.C_drew HR329_1.out)
                have n9_ := Aside0.mk (below_drew1 HB.out)
                clear HO_7
                clear HO_8
                clear HO_34
                clear HL320_1
                clear HL329_1
                clear BK304
                clear BK312
                clear HR320_1
                clear HR329_1
                clear HB
                have HO_7 := n0_
                have HO_8 := n1_
                have HO_34 := n2_
                have HL320_1 := n3_
                have HL329_1 := n4_
                have BK304 := n5_
                have BK312 := n6_
                have HR320_1 := n7_
                have HR329_1 := n8_
                have HB := n9_
                clear n0_ n1_ n2_ n3_ n4_ n5_ n6_ n7_ n8_ n9_
                have p331 : 0 ≤ (x13_2 : Int) := of_decide_eq_true (by with_reducible assumption)
                have q331 : x13_2 < (t308.length : Int) := of_decide_eq_true (by with_reducible assumption)
                obtain ⟨ad331, A331_1, c331_1, e331, hx331_0, hx331_1, hl331_1, hi331_1⟩ := at_T83 (Kd.N_reads' HO_7.out).2.2 x13_2 p331 q331
                obtain rfl : ad311 = ad331 := (by injection e331)
                obtain ⟨ce331, hce331, hMe331, hcc331⟩ := Kd.N_get HO_7.out z83 x13_2 p331 (by first | exact q331 | exact of_decide_eq_true (by with_reducible assumption) | (have e_ := (Kd.N_reads' HO_7.out).1; omega))
                obtain ⟨ua331_1, uc331_1, rfl, ul331_1, ge331_1⟩ := k83_openF hMe331
                have hv331_1 := hcc331 1 _ rfl
                rw [add_field _ _ 1 (by omega)] at hv331_1
                replace hv331_1 := Option.some.inj (hv331_1.symm.trans hx331_1)
                injection hv331_1 with hva_ hvn_ hvc_
                rw [hva_] at ge331_1
                rw [hvc_] at ul331_1
                have HL331_1 := Aside0.mk (show Kd.V (Kd.int .i64) 3 _ w.heap.size _ _ ((rd_T83 t308 x13_2).f1) from Kd.V_mk ul331_1 ge331_1)
                clear hva_ hvn_ hvc_ ge331_1 ul331_1
                clear hcc331 hce331
                have HR331_1 := Aside0.mk hi331_1
                have HC331_1 := Aside0.mk hl331_1
                clear hi331_1 hl331_1
                replace p331 := eq_true p331
                replace q331 := eq_true q331
                refine start_ (n := 13) (S := fun w' => w'.cell? ⟨gb312, 0, none⟩ = some (.int .i64 ((rd_T83 t308 x36_1).f0)) ∧ w'.cell? ⟨gb312, 1, none⟩ = some (.slice A311_1 ((rd_T83 t308 x36_1).f1).length c311_1) ∧ w'.cell? (ad311.add ((x13_2).toNat * 2)) = some (.int .i64 ((rd_T83 t308 x13_2).f0)) ∧ w'.cell? ⟨(ad311.add ((x13_2).toNat * 2)).block, (ad311.add ((x13_2).toNat * 2)).off + 1, none⟩ = some (.slice A331_1 ((rd_T83 t308 x13_2).f1).length c331_1)) (ds := []) #[false, false, false, false, false, false, false, false, false, false, false, false, false] (by kernel_rfl) rfl rfl ⟨(blk_cell BK312.out 0).trans rfl, (blk_cell BK312.out 1).trans rfl, hx331_0, hx331_1⟩ (fun hHeld => ?_); refine with_tabW comma_List.tab19 comma_List.bits19 (fun HT_ HW_ => ?_)
                generalize w55.drew = w57 at HLa_ HO_7 HO_8 HO_34 HL320_1 HL329_1 BK304 BK312 HR320_1 HR329_1 HB HL331_1 HR331_1 hx331_0 hx331_1 hHeld ⊢
                refine pure_ (i := 0) (N := some 76) (v := ?_) (a' := ?_) #[true, false, false, false, false, false, false, false, false, false, false, false, false] rfl rfl (any_of HT_.out (by kernel_rfl)) (fun _ _ _ h => h) (Or.inl ⟨by rfl, ?_⟩) ?_ ?_
                rotate_left
                ·intro w'
                 go_simp
                 with_reducible rfl
                rotate_left
                ·simp only [Act.put, List.setIfInBounds_toArray, List.set_cons_zero, List.set_cons_succ, i64_w, i32_w]
                 rfl
                refine pure_ (i := 2) (N := some 78) (v := ?_) (a' := ?_) #[true, false, true, false, false, false, false, false, false, false, false, false, false] rfl rfl (any_of HT_.out (by kernel_rfl)) (fun _ _ _ h => h) (Or.inl ⟨by rfl, ?_⟩) ?_ ?_
                rotate_left
                ·intro w'
                 go_simp
                 with_reducible rfl
                rotate_left
                ·simp only [Act.put, List.setIfInBounds_toArray, List.set_cons_zero, List.set_cons_succ, i64_w, i32_w]
                 rfl
                refine pure_ (i := 3) (N := some 79) (v := ?_) (a' := ?_) #[true, false, true, true, false, false, false, false, false, false, false, false, false] rfl rfl (any_of HT_.out (by kernel_rfl)) (fun _ _ _ h => h) (Or.inl ⟨by rfl, ?_⟩) ?_ ?_
                rotate_left
                ·intro w'
                 go_simp
                 with_reducible rfl
                rotate_left
                ·simp only [Act.put, List.setIfInBounds_toArray, List.set_cons_zero, List.set_cons_succ, i64_w, i32_w]
                 rfl
                refine pure_ (i := 4) (N := some 80) (v := ?_) (a' := ?_) #[true, false, true, true, true, false, false, false, false, false, false, false, false] rfl rfl (any_of HT_.out (by kernel_rfl)) (fun _ _ _ h => h) (Or.inl ⟨by rfl, ?_⟩) ?_ ?_
                rotate_left
                ·intro w'
                 go_simp
                 with_reducible rfl
                rotate_left
                ·simp only [Act.put, List.setIfInBounds_toArray, List.set_cons_zero, List.set_cons_succ, i64_w, i32_w]
                 rfl
                refine pure_ (i := 5) (N := some 81) (v := ?_) (a' := ?_) #[true, false, true, true, true, true, false, false, false, false, false, false, false] rfl rfl (any_of HT_.out (by kernel_rfl)) (fun _ _ _ h => h) (Or.inl ⟨by rfl, ?_⟩) ?_ ?_
                rotate_left
                ·intro w'
                 go_simp
                 with_reducible rfl
                rotate_left
                ·simp only [Act.put, List.setIfInBounds_toArray, List.set_cons_zero, List.set_cons_succ, i64_w, i32_w]
                 rfl
                refine take_ (i := 1) (N := some 77) (v := ?_) (a' := ?_) #[true, true, true, true, true, true, false, false, false, false, false, false, false] rfl rfl (take_ofW HT_.out HW_.out (by kernel_rfl)) (fun _ _ _ h => h) (Or.inl ⟨by rfl, ?_⟩) hHeld ?_ ?_
                rotate_left
                ·rintro w' ⟨s0, s1, s2, s3⟩
                 go_simp
                 with_reducible rfl
                rotate_left
                ·simp only [Act.put, List.setIfInBounds_toArray, List.set_cons_zero, List.set_cons_succ, i64_w, i32_w]
                 rfl
                refine take_ (i := 6) (N := some 82) (v := ?_) (a' := ?_) #[true, true, true, true, true, true, true, false, false, false, false, false, false] rfl rfl (take_ofW HT_.out HW_.out (by kernel_rfl)) (fun _ _ _ h => h) (Or.inl ⟨by rfl, ?_⟩) hHeld ?_ ?_
                rotate_left
                ·rintro w' ⟨s0, s1, s2, s3⟩
                 go_simp
                 with_reducible rfl
                rotate_left
                ·simp only [Act.put, List.setIfInBounds_toArray, List.set_cons_zero, List.set_cons_succ, i64_w, i32_w]
                 rfl
                refine one_ (i := 7) (N := some 83) #[true, true, true, true, true, true, true, true, false, false, false, false, false] rfl rfl (one_of HT_.out (by kernel_rfl)) (by decide) (fun K hK => ?_)
                refine goes_ Tryz.func43 (by kernel_rfl) rfl #[.slice A311_1 ((rd_T83 t308 x36_1).f1).length c311_1, .slice A331_1 ((rd_T83 t308 x13_2).f1).length c331_1] (by rfl) rfl rfl (by (try simp only [List.map_toArray, List.map_cons, List.map_nil]); first | done | rfl | (simp only [List.length_drop, List.length_take]; rfl)) ?_
                with_reducible refine (g_row_Sub.calls _ _ ((rd_T83 t308 x36_1).f1) _ _ ((rd_T83 t308 x13_2).f1) t332 t333 _ ?side1 ?side2 ?side3 ?side4 A49.out).mono ?_
                (case side1 => repeat (first | exact ((Kd.V_reads' HLa_.out).2.2) | (with_reducible refine Kd.C_alloc ?_ _) | (with_reducible refine Kd.C_drewN ?_ _) | (with_reducible refine Kd.C_drew ?_)))
                (case side2 => exact HC311_1.out)
                (case side3 => repeat (first | exact (by repeat (first | (with_reducible exact HR331_1.out) | (with_reducible refine Kd.C_alloc ?_ _) | (with_reducible refine Kd.C_drewN ?_ _) | (with_reducible refine Kd.C_drew ?_) | exact HR331_1.out)) | (with_reducible refine Kd.C_alloc ?_ _) | (with_reducible refine Kd.C_drewN ?_ _) | (with_reducible refine Kd.C_drew ?_)))
                (case side4 => exact HC331_1.out)
                rintro e w58 ⟨v334, rfl, ho0, hb⟩
                have HS2_ := (hb.cell (World.block_lt_of_cell? _ _ (hHeld.2.2.1))).trans (hHeld.2.2.1)
                have HS3_ := (hb.cell (World.block_lt_of_cell? _ _ (hHeld.2.2.2))).trans (hHeld.2.2.2)
                refine ⟨_, rfl, ?_⟩
                have n0_ := Aside0.mk (Kd.N_elder' (by (with_reducible repeat (first | apply Kd.N_alloc | apply Kd.N_drewN | apply Kd.N_drew)); exact HO_7.out) (Kd.R_base ho0) hb)
                have n1_ := Aside0.mk (Kd.N_elder' (by (with_reducible repeat (first | apply Kd.N_alloc | apply Kd.N_drewN | apply Kd.N_drew)); exact HO_8.out) (Kd.R_base ho0) hb)
                have n2_ := Aside0.mk (Kd.N_elder' (by (with_reducible repeat (first | apply Kd.N_alloc | apply Kd.N_drewN | apply Kd.N_drew)); exact HO_34.out) (Kd.R_base ho0) hb)
                have n3_ := Aside0.mk (Kd.V_elder' (by (with_reducible repeat (first | apply Kd.V_alloc | apply Kd.V_drewN | apply Kd.V_drew)); exact HL320_1.out) (Kd.R_base ho0) hb); have nq_ := Aside0.mk (Kd.V_elder' (by (with_reducible repeat (first | apply Kd.V_alloc | apply Kd.V_drewN | apply Kd.V_drew)); exact HLa_.out) (Kd.R_base ho0) hb); clear HLa_; have HLa_ := nq_; clear nq_
                have n4_ := Aside0.mk (Kd.V_elder' (by (with_reducible repeat (first | apply Kd.V_alloc | apply Kd.V_drewN | apply Kd.V_drew)); exact HL329_1.out) (Kd.R_base ho0) hb)
                have n5_ := Aside0.mk (Kd.V_elder' (by (with_reducible repeat (first | apply Kd.V_alloc | apply Kd.V_drewN | apply Kd.V_drew)); exact HL331_1.out) (Kd.R_base ho0) hb)
                have n6_ := Aside0.mk (Kd.R_lower (Kd.R_newM (M := fun k_ => (w.heap.size ≤ k_)) ho0 (below_size (by repeat (first | (with_reducible first | exact HB.out | apply below_alloc | apply pw_below_drewN | apply below_drew1 | refine below_set ?_ GE304.out | refine below_set ?_ GE312.out) | exact HB.out))) (fun k_ h_ => h_)) (below_size (by repeat (first | (with_reducible first | exact HB.out | apply below_alloc | apply pw_below_drewN | apply below_drew1 | refine below_set ?_ GE304.out | refine below_set ?_ GE312.out) | exact HB.out))))
                have n7_ := Aside0.mk (blk_below (g := gb304) (o := .cells #[.slice A0_0 l0_0.length c0_0, .int .i64 a0_1, .slice A0_2 l0_2.length c0_2] 32 (0, 0)) (by (with_reducible repeat (first | refine blk_drewN ?_ _ | refine blk_drew ?_ | refine blk_alloc ?_ _)); exact BK304.out) hb)
                have n8_ := Aside0.mk (blk_below (g := gb312) (o := .cells #[.int .i64 ((rd_T83 t308 x36_1).f0), .slice A311_1 ((rd_T83 t308 x36_1).f1).length c311_1] 83 (0, 0)) (by (with_reducible repeat (first | refine blk_drewN ?_ _ | refine blk_drew ?_ | refine blk_alloc ?_ _)); exact BK312.out) hb)
                have n9_ := Aside0.mk (Kd.C_below (by repeat (first | (with_reducible exact HR320_1.out) | (with_reducible refine Kd.C_alloc ?_ _) | (with_reducible refine Kd.C_drewN ?_ _) | (with_reducible refine Kd.C_drew ?_) | exact HR320_1.out)) hb)
                have n10_ := Aside0.mk (Kd.C_below (by repeat (first | (with_reducible exact HR329_1.out) | (with_reducible refine Kd.C_alloc ?_ _) | (with_reducible refine Kd.C_drewN ?_ _) | (with_reducible refine Kd.C_drew ?_) | exact HR329_1.out)) hb)
                have n11_ := Aside0.mk (Kd.C_below (by repeat (first | (with_reducible exact HR331_1.out) | (with_reducible refine Kd.C_alloc ?_ _) | (with_reducible refine Kd.C_drewN ?_ _) | (with_reducible refine Kd.C_drew ?_) | exact HR331_1.out)) hb)
                have n12_ := Aside0.mk (below_step (by repeat (first | (with_reducible first | exact HB.out | apply below_alloc | apply pw_below_drewN | apply below_drew1 | refine below_set ?_ GE304.out | refine below_set ?_ GE312.out) | exact HB.out)) hb)
                clear HO_7
                clear HO_8
                clear HO_34
                clear HL320_1
                clear HL329_1
                clear HL331_1
                clear BK304
                clear BK312
                clear HR320_1
                clear HR329_1
                clear HR331_1
                clear HB
                have HO_7 := n0_
                have HO_8 := n1_
                have HO_34 := n2_
                have HL320_1 := n3_
                have HL329_1 := n4_
                have HL331_1 := n5_
                have HO335 := n6_
                have BK304 := n7_
                have BK312 := n8_
                have HR320_1 := n9_
                have HR329_1 := n10_
                have HR331_1 := n11_
                have HB := n12_
                clear n0_ n1_ n2_ n3_ n4_ n5_ n6_ n7_ n8_ n9_ n10_ n11_ n12_
                (try clear hb)
                (try clear hb2)
                (try clear hk)
                (try clear hi)
                (try clear ho0)
                refine hK.out _ _ ⟨(blk_cell BK312.out 0).trans rfl, (blk_cell BK312.out 1).trans rfl, HS2_, HS3_⟩ (fun hHeld => ?_)
                clear hK K
                refine norm_ (a' := ?_) ?_ ?_
                rotate_left
                ·show Act.put _ (some 83) _ = _
                 simp only [Act.put, List.setIfInBounds_toArray, List.set_cons_zero, List.set_cons_succ, i64_w, i32_w]
                 rfl
                refine pure_ (i := 8) (N := some 75) (v := ?_) (a' := ?_) #[true, true, true, true, true, true, true, true, true, false, false, false, false] rfl rfl (any_of HT_.out (by kernel_rfl)) (fun _ _ _ h => h) (Or.inl ⟨by rfl, ?_⟩) ?_ ?_
                rotate_left
                ·intro w'
                 go_simp
                 with_reducible rfl
                rotate_left
                ·simp only [Act.put, List.setIfInBounds_toArray, List.set_cons_zero, List.set_cons_succ, i64_w, i32_w]
                 rfl
                refine pure_ (i := 9) (N := some 84) (v := ?_) (a' := ?_) #[true, true, true, true, true, true, true, true, true, true, false, false, false] rfl rfl (any_of HT_.out (by kernel_rfl)) (fun _ _ _ h => h) (Or.inl ⟨by rfl, ?_⟩) ?_ ?_
                rotate_left
                ·intro w'
                 go_simp
                 with_reducible rfl
                rotate_left
                ·simp only [Act.put, List.setIfInBounds_toArray, List.set_cons_zero, List.set_cons_succ, i64_w, i32_w]
                 rfl
                refine pure_ (i := 10) (N := some 85) (v := ?_) (a' := ?_) #[true, true, true, true, true, true, true, true, true, true, true, false, false] rfl rfl (any_of HT_.out (by kernel_rfl)) (fun _ _ _ h => h) (Or.inl ⟨by rfl, ?_⟩) ?_ ?_
                rotate_left
                ·intro w'
                 go_simp
                 with_reducible rfl
                rotate_left
                ·simp only [Act.put, List.setIfInBounds_toArray, List.set_cons_zero, List.set_cons_succ, i64_w, i32_w]
                 rfl
                refine pure_ (i := 11) (N := some 14) (v := ?_) (a' := ?_) #[true, true, true, true, true, true, true, true, true, true, true, true, false] rfl rfl (any_of HT_.out (by kernel_rfl)) (fun _ _ _ h => h) (Or.inl ⟨by rfl, ?_⟩) ?_ ?_
                rotate_left
                ·intro w'
                 go_simp
                 with_reducible rfl
                rotate_left
                ·simp only [Act.put, List.setIfInBounds_toArray, List.set_cons_zero, List.set_cons_succ, i64_w, i32_w]
                 rfl
                refine pure_ (i := 12) (N := some 15) (v := ?_) (a' := ?_) #[true, true, true, true, true, true, true, true, true, true, true, true, true] rfl rfl (any_of HT_.out (by kernel_rfl)) (fun _ _ _ h => h) (Or.inl ⟨by rfl, ?_⟩) ?_ ?_
                rotate_left
                ·intro w'
                 go_simp
                 with_reducible rfl
                rotate_left
                ·simp only [Act.put, List.setIfInBounds_toArray, List.set_cons_zero, List.set_cons_succ, i64_w, i32_w]
                 rfl
                refine done_ (done_of HT_.out (by kernel_rfl)) ?_
                obtain ⟨Ao60, co60, eo60⟩ := Kd.R_slice HO335.out
                subst eo60
                try go_wp2_with (first | ((with_reducible refine gate_builtin (b := .append) (xs := #[.tmp 86, .tmp 88]) rfl ?_); at_builtin; refine Kd.N_append (Kd.slice 3 (Kd.int .i64)) (w0 := w) w.heap.size rfl (.tmp 86) (.tmp 88) 36 30 (.slice none 0 0) 24 rfl Tryz.underlying36 info30 rfl (by decide) (by omega) (.slice Ao56 x8_2.length co56) x8_2 t332 [.slice Ao60 t332.length co60] (fun k_ => (w.heap.size ≤ k_) ∧ some k_ ≠ (.slice (some ad311) t308.length co13 : Value).ownBlock ∧ some k_ ≠ (.slice (some ad311) t308.length co13 : Value).ownBlock ∧ k_ ≠ gb304 ∧ k_ ≠ gb312) (fun k_ => ((fun k_ => (w.heap.size ≤ k_) ∧ some k_ ≠ (.slice (some ad311) t308.length co13 : Value).ownBlock ∧ some k_ ≠ (.slice (some ad311) t308.length co13 : Value).ownBlock ∧ k_ ≠ gb304 ∧ k_ ≠ gb312)) k_ ∧ some k_ ≠ (.slice Ao56 x8_2.length co56 : Value).ownBlock) rfl rfl ?aP (fun _ hk => hk) ?aF ?aO ?aB ?aS ?aL ?_; (case aP => exact (Kd.FK_slice_mk (Kd.R_reads' (Kd.R_mono (ok' := (fun k_ => ((fun k_ => (w.heap.size ≤ k_) ∧ some k_ ≠ (.slice (some ad311) t308.length co13 : Value).ownBlock ∧ some k_ ≠ (.slice (some ad311) t308.length co13 : Value).ownBlock ∧ k_ ≠ gb304 ∧ k_ ≠ gb312)) k_ ∧ some k_ ≠ (.slice Ao56 x8_2.length co56 : Value).ownBlock)) (Kd.R_types (Kd.R_types (Kd.R_apart' (Kd.R_apart' (Kd.R_apart' (HO335.out) (Kd.N_typed HO_7.out) (by decide)) (Kd.N_typed HO_34.out) (by decide)) (Kd.N_typed HO_8.out) (by decide)) BK304.out (by decide)) BK312.out (by decide)) (fun k_ hk => ⟨⟨hk.1.1.1.1.1.1, ⟨hk.1.1.1.1.2, ⟨hk.1.1.1.2, ⟨hk.1.2, hk.2⟩⟩⟩⟩, hk.1.1.2⟩))).2.1 (Kd.R_F (Kd.R_mono (ok' := (fun k_ => ((fun k_ => (w.heap.size ≤ k_) ∧ some k_ ≠ (.slice (some ad311) t308.length co13 : Value).ownBlock ∧ some k_ ≠ (.slice (some ad311) t308.length co13 : Value).ownBlock ∧ k_ ≠ gb304 ∧ k_ ≠ gb312)) k_ ∧ some k_ ≠ (.slice Ao56 x8_2.length co56 : Value).ownBlock)) (Kd.R_types (Kd.R_types (Kd.R_apart' (Kd.R_apart' (Kd.R_apart' (HO335.out) (Kd.N_typed HO_7.out) (by decide)) (Kd.N_typed HO_34.out) (by decide)) (Kd.N_typed HO_8.out) (by decide)) BK304.out (by decide)) BK312.out (by decide)) (fun k_ hk => ⟨⟨hk.1.1.1.1.1.1, ⟨hk.1.1.1.1.2, ⟨hk.1.1.1.2, ⟨hk.1.2, hk.2⟩⟩⟩⟩, hk.1.1.2⟩))))); (case aB => exact (by repeat (first | (with_reducible first | exact HB.out | apply below_alloc | apply pw_below_drewN | apply below_drew1 | refine below_set ?_ GE304.out | refine below_set ?_ GE312.out) | exact HB.out))); (case aF => exact (fun k_ hk => ⟨(Nat.le_trans (below_size (by repeat (first | (with_reducible first | exact HB.out | apply below_alloc | apply pw_below_drewN | apply below_drew1 | refine below_set ?_ GE304.out | refine below_set ?_ GE312.out) | exact HB.out))) hk), Kd.fresh' (Kd.N_lt (by (with_reducible repeat (first | apply Kd.N_alloc | apply Kd.N_drewN | apply Kd.N_drew)); exact HO_7.out)) k_ hk, Kd.fresh' (Kd.N_lt (by (with_reducible repeat (first | apply Kd.N_alloc | apply Kd.N_drewN | apply Kd.N_drew)); exact HO_34.out)) k_ hk, Kd.freshB (g := gb304) (o := .cells #[.slice A0_0 l0_0.length c0_0, .int .i64 a0_1, .slice A0_2 l0_2.length c0_2] 32 (0, 0)) (by (with_reducible repeat (first | refine blk_drewN ?_ _ | refine blk_drew ?_ | refine blk_alloc ?_ _)); exact BK304.out) k_ hk, Kd.freshB (g := gb312) (o := .cells #[.int .i64 ((rd_T83 t308 x36_1).f0), .slice A311_1 ((rd_T83 t308 x36_1).f1).length c311_1] 83 (0, 0)) (by (with_reducible repeat (first | refine blk_drewN ?_ _ | refine blk_drew ?_ | refine blk_alloc ?_ _)); exact BK312.out) k_ hk⟩)); (case aO => exact (by (with_reducible repeat (first | apply Kd.N_alloc | apply Kd.N_drewN | apply Kd.N_drew)); exact Kd.N_mono HO_8.out (fun _ hk => ⟨hk.1.1, ⟨hk.1.2.1, ⟨hk.1.2.2.1, ⟨hk.1.2.2.2.1, hk.1.2.2.2.2⟩⟩⟩⟩))); (case aS => exact (below_size (by repeat (first | (with_reducible first | exact HB.out | apply below_alloc | apply pw_below_drewN | apply below_drew1 | refine below_set ?_ GE304.out | refine below_set ?_ GE312.out) | exact HB.out)))); (case aL => have := LMc50.out; omega); intro v337 w59 ho hb hg hat; rw [← Ny336.out] at ho; have n0_ := Aside0.mk (Kd.N_afterv (ok := (fun k_ => (w.heap.size ≤ k_) ∧ some k_ ≠ (.slice Ao60 t332.length co60 : Value).ownBlock ∧ k_ ≠ gb304 ∧ k_ ≠ gb312)) (by (with_reducible repeat (first | apply Kd.N_alloc | apply Kd.N_drewN | apply Kd.N_drew)); exact Kd.N_mono HO_7.out (fun _ hk => ⟨⟨hk.1.1, ⟨hk.2, ⟨hk.1.2.2.1, hk.1.2.2.2⟩⟩⟩, hk.1.2.1⟩)) hg hat); have n1_ := Aside0.mk (Kd.N_afterv (ok := (fun k_ => (w.heap.size ≤ k_) ∧ some k_ ≠ (.slice Ao60 t332.length co60 : Value).ownBlock ∧ k_ ≠ gb304 ∧ k_ ≠ gb312)) (by (with_reducible repeat (first | apply Kd.N_alloc | apply Kd.N_drewN | apply Kd.N_drew)); exact Kd.N_mono HO_34.out (fun _ hk => ⟨⟨hk.1.1, ⟨hk.2, ⟨hk.1.2.2.1, hk.1.2.2.2⟩⟩⟩, hk.1.2.1⟩)) hg hat); have n2_ := Aside0.mk (blk_grown (g := gb304) (o := .cells #[.slice A0_0 l0_0.length c0_0, .int .i64 a0_1, .slice A0_2 l0_2.length c0_2] 32 (0, 0)) (by (with_reducible repeat (first | refine blk_drewN ?_ _ | refine blk_drew ?_ | refine blk_alloc ?_ _)); exact BK304.out) hg (Kd.N_ne HO_8.out BK304.out (by decide))); have n3_ := Aside0.mk (blk_grown (g := gb312) (o := .cells #[.int .i64 ((rd_T83 t308 x36_1).f0), .slice A311_1 ((rd_T83 t308 x36_1).f1).length c311_1] 83 (0, 0)) (by (with_reducible repeat (first | refine blk_drewN ?_ _ | refine blk_drew ?_ | refine blk_alloc ?_ _)); exact BK312.out) hg (Kd.N_ne HO_8.out BK312.out (by decide))); have n4_ := Aside0.mk (Kd.V_afterv (ok := (fun k_ => (w.heap.size ≤ k_) ∧ some k_ ≠ (.slice (some ad311) t308.length co13 : Value).ownBlock ∧ some k_ ≠ (.slice Ao60 t332.length co60 : Value).ownBlock ∧ k_ ≠ gb304 ∧ k_ ≠ gb312)) (by (with_reducible repeat (first | apply Kd.V_alloc | apply Kd.V_drewN | apply Kd.V_drew)); exact Kd.V_mono HL320_1.out (fun _ hk => ⟨⟨hk.1.1.1, ⟨hk.1.2, ⟨hk.2, ⟨hk.1.1.2.2.1, hk.1.1.2.2.2⟩⟩⟩⟩, hk.1.1.2.1⟩)) hg hat); have nq_ := Aside0.mk (Kd.V_afterv (ok := (fun k_ => (w.heap.size ≤ k_) ∧ some k_ ≠ (.slice (some ad311) t308.length co13 : Value).ownBlock ∧ some k_ ≠ (.slice Ao60 t332.length co60 : Value).ownBlock ∧ k_ ≠ gb304 ∧ k_ ≠ gb312)) (by (with_reducible repeat (first | apply Kd.V_alloc | apply Kd.V_drewN | apply Kd.V_drew)); exact Kd.V_mono HLa_.out (fun _ hk => ⟨⟨hk.1.1.1, ⟨hk.1.2, ⟨hk.2, ⟨hk.1.1.2.2.1, hk.1.1.2.2.2⟩⟩⟩⟩, hk.1.1.2.1⟩)) hg hat); clear HLa_; have HLa_ := nq_; clear nq_; have n5_ := Aside0.mk (Kd.V_afterv (ok := (fun k_ => (w.heap.size ≤ k_) ∧ some k_ ≠ (.slice (some ad311) t308.length co13 : Value).ownBlock ∧ some k_ ≠ (.slice Ao60 t332.length co60 : Value).ownBlock ∧ k_ ≠ gb304 ∧ k_ ≠ gb312)) (by (with_reducible repeat (first | apply Kd.V_alloc | apply Kd.V_drewN | apply Kd.V_drew)); exact Kd.V_mono HL329_1.out (fun _ hk => ⟨⟨hk.1.1.1, ⟨hk.1.2, ⟨hk.2, ⟨hk.1.1.2.2.1, hk.1.1.2.2.2⟩⟩⟩⟩, hk.1.1.2.1⟩)) hg hat); have n6_ := Aside0.mk (Kd.V_afterv (ok := (fun k_ => (w.heap.size ≤ k_) ∧ some k_ ≠ (.slice (some ad311) t308.length co13 : Value).ownBlock ∧ some k_ ≠ (.slice Ao60 t332.length co60 : Value).ownBlock ∧ k_ ≠ gb304 ∧ k_ ≠ gb312)) (by (with_reducible repeat (first | apply Kd.V_alloc | apply Kd.V_drewN | apply Kd.V_drew)); exact Kd.V_mono HL331_1.out (fun _ hk => ⟨⟨hk.1.1.1, ⟨hk.1.2, ⟨hk.2, ⟨hk.1.1.2.2.1, hk.1.1.2.2.2⟩⟩⟩⟩, hk.1.1.2.1⟩)) hg hat); have n7_ := Aside0.mk (hb); have n8_ := Aside0.mk (ho); clear HO_7; clear HO_34; clear BK304; clear BK312; clear HL320_1; clear HL329_1; clear HL331_1; clear HB; clear HO_8; clear HO335; have HO_7 := n0_; have HO_34 := n1_; have BK304 := n2_; have BK312 := n3_; have HL320_1 := n4_; have HL329_1 := n5_; have HL331_1 := n6_; have HB := n7_; have HO338 := n8_; clear n0_ n1_ n2_ n3_ n4_ n5_ n6_ n7_ n8_; clear ho hb hg hat))
                go_roundg k2
                case measure => have := HK1.out; have := HK2.out; omega
                case rel => exact ⟨(y336), (wrap64 (x13_2 - 1)), (by first | rfl | (simp; done) | (simp [*]; done)), H', ⟨by have := HK1.out; have := HK2.out; omega⟩, ⟨by (with_reducible repeat (first | apply Kd.N_alloc | apply Kd.N_drewN | apply Kd.N_drew)); exact Kd.N_mono HO_7.out (fun _ hk => ⟨hk.1.1, ⟨hk.2, ⟨hk.1.2.2.1, hk.1.2.2.2⟩⟩⟩)⟩, ⟨by (with_reducible repeat (first | apply Kd.N_alloc | apply Kd.N_drewN | apply Kd.N_drew)); exact HO338.out⟩, ⟨by (with_reducible repeat (first | apply Kd.N_alloc | apply Kd.N_drewN | apply Kd.N_drew)); exact Kd.N_mono HO_34.out (fun _ hk => ⟨hk.1.1, ⟨hk.2, ⟨hk.1.2.2.1, hk.1.2.2.2⟩⟩⟩)⟩, ⟨by (with_reducible repeat (first | refine blk_drewN ?_ _ | refine blk_drew ?_ | refine blk_alloc ?_ _)); exact BK304.out⟩, ⟨by (with_reducible repeat (first | refine blk_drewN ?_ _ | refine blk_drew ?_ | refine blk_alloc ?_ _)); exact BK312.out⟩, ⟨by (with_reducible repeat (first | apply Kd.V_alloc | apply Kd.V_drewN | apply Kd.V_drew)); first | with_reducible exact HLa_.out | exact Kd.V_mono HLa_.out (fun _ hk => ⟨⟨hk.1.1, hk.2, hk.1.2.2.2.1, hk.1.2.2.2.2⟩, hk.1.2.1⟩)⟩, ⟨by repeat (first | (with_reducible first | exact HB.out | apply below_alloc | apply pw_below_drewN | apply below_drew1 | refine below_set ?_ GE304.out | refine below_set ?_ GE312.out) | exact HB.out)⟩⟩
               ·rw [if_neg c50] at H
                exact absurd H (by simp)
             ·replace c41 := Bool.eq_false_iff.mpr c41
              subst c41
              have H1 : (comma_List.l1 k2 t306 t307 t308 x8_2 t314 (x8_1.length : Int) (wrap64 (x13_2 - 1)) t308 (t308.length : Int) x36_1 ((rd_T83 t308 x36_1).f0) ((rd_T83 t308 x36_1).f1)) = some (r1, r2) := by rw [if_neg (show ¬ (false = true) by decide)] at H; exact H
              clear H
              have H := H1
              clear H1
              have H' := Aside0.mk H
              clear H
              have p320 : 0 ≤ (x13_2 : Int) := of_decide_eq_true (by with_reducible assumption)
              have q320 : x13_2 < (t308.length : Int) := of_decide_eq_true (by with_reducible assumption)
              obtain ⟨ad320, A320_1, c320_1, e320, hx320_0, hx320_1, hl320_1, hi320_1⟩ := at_T83 (Kd.N_reads' HO_7.out).2.2 x13_2 p320 q320
              obtain rfl : ad311 = ad320 := (by injection e320)
              obtain ⟨ce320, hce320, hMe320, hcc320⟩ := Kd.N_get HO_7.out z83 x13_2 p320 (by first | exact q320 | exact of_decide_eq_true (by with_reducible assumption) | (have e_ := (Kd.N_reads' HO_7.out).1; omega))
              obtain ⟨ua320_1, uc320_1, rfl, ul320_1, ge320_1⟩ := k83_openF hMe320
              have hv320_1 := hcc320 1 _ rfl
              rw [add_field _ _ 1 (by omega)] at hv320_1
              replace hv320_1 := Option.some.inj (hv320_1.symm.trans hx320_1)
              injection hv320_1 with hva_ hvn_ hvc_
              rw [hva_] at ge320_1
              rw [hvc_] at ul320_1
              have HL320_1 := Aside0.mk (show Kd.V (Kd.int .i64) 3 _ w.heap.size _ _ ((rd_T83 t308 x13_2).f1) from Kd.V_mk ul320_1 ge320_1)
              clear hva_ hvn_ hvc_ ge320_1 ul320_1
              clear hcc320 hce320
              have HR320_1 := Aside0.mk hi320_1
              have HC320_1 := Aside0.mk hl320_1
              clear hi320_1 hl320_1
              replace p320 := eq_true p320
              replace q320 := eq_true q320
              try go_wp2_with (first | ((with_reducible refine gate_callee (f := 41) rfl ?_); refine goesL_ (some 60) rfl rfl Tryz.func41 (by kernel_rfl) rfl #[.int .i64 ((rd_T83 t308 x13_2).f0)] rfl (by (try simp only [List.map_toArray, List.map_cons, List.map_nil]); first | done | rfl | (simp only [List.length_drop, List.length_take]; rfl)) ?_; (with_reducible refine (g_whole_Of.calls ((rd_T83 t308 x13_2).f0) t321 _ ?side1 A28.out).mono ?_); (case side1 => exact Glob.below HG.out (by repeat (first | (with_reducible first | exact HB.out | apply below_alloc | apply pw_below_drewN | apply below_drew1 | refine below_set ?_ GE304.out | refine below_set ?_ GE312.out) | exact HB.out))); rintro e w61 ⟨rfl, hb⟩; refine ⟨_, rfl, ?_⟩; have n0_ := Aside0.mk (Kd.N_below (by (with_reducible repeat (first | apply Kd.N_alloc | apply Kd.N_drewN | apply Kd.N_drew)); exact HO_7.out) hb); have n1_ := Aside0.mk (Kd.N_below (by (with_reducible repeat (first | apply Kd.N_alloc | apply Kd.N_drewN | apply Kd.N_drew)); exact HO_8.out) hb); have n2_ := Aside0.mk (Kd.N_below (by (with_reducible repeat (first | apply Kd.N_alloc | apply Kd.N_drewN | apply Kd.N_drew)); exact HO_34.out) hb); have n3_ := Aside0.mk (Kd.V_below (by (with_reducible repeat (first | apply Kd.V_alloc | apply Kd.V_drewN | apply Kd.V_drew)); exact HL320_1.out) hb); have nq_ := Aside0.mk (Kd.V_below (by (with_reducible repeat (first | apply Kd.V_alloc | apply Kd.V_drewN | apply Kd.V_drew)); exact HLa_.out) hb); clear HLa_; have HLa_ := nq_; clear nq_; have n4_ := Aside0.mk (blk_below (g := gb304) (o := .cells #[.slice A0_0 l0_0.length c0_0, .int .i64 a0_1, .slice A0_2 l0_2.length c0_2] 32 (0, 0)) (by (with_reducible repeat (first | refine blk_drewN ?_ _ | refine blk_drew ?_ | refine blk_alloc ?_ _)); exact BK304.out) hb); have n5_ := Aside0.mk (blk_below (g := gb312) (o := .cells #[.int .i64 ((rd_T83 t308 x36_1).f0), .slice A311_1 ((rd_T83 t308 x36_1).f1).length c311_1] 83 (0, 0)) (by (with_reducible repeat (first | refine blk_drewN ?_ _ | refine blk_drew ?_ | refine blk_alloc ?_ _)); exact BK312.out) hb); have n6_ := Aside0.mk (Kd.C_below (by repeat (first | (with_reducible exact HR320_1.out) | (with_reducible refine Kd.C_alloc ?_ _) | (with_reducible refine Kd.C_drewN ?_ _) | (with_reducible refine Kd.C_drew ?_) | exact HR320_1.out)) hb); have n7_ := Aside0.mk (below_step (by repeat (first | (with_reducible first | exact HB.out | apply below_alloc | apply pw_below_drewN | apply below_drew1 | refine below_set ?_ GE304.out | refine below_set ?_ GE312.out) | exact HB.out)) hb); clear HO_7; clear HO_8; clear HO_34; clear HL320_1; clear BK304; clear BK312; clear HR320_1; clear HB; have HO_7 := n0_; have HO_8 := n1_; have HO_34 := n2_; have HL320_1 := n3_; have BK304 := n4_; have BK312 := n5_; have HR320_1 := n6_; have HB := n7_; clear n0_ n1_ n2_ n3_ n4_ n5_ n6_ n7_; (try clear hb); (try clear hb2); (try clear hk); (try clear hi)) | ((with_reducible refine gate_callee (f := 40) rfl ?_); refine goesL_ (some 62) rfl rfl Tryz.func40 (by kernel_rfl) rfl #[.string t321, .string t306] rfl (by (try simp only [List.map_toArray, List.map_cons, List.map_nil]); first | done | rfl | (simp only [List.length_drop, List.length_take]; rfl)) ?_; (with_reducible refine (whole_Mul.calls k2 t321 t306 t322 _ ?side1 A29.out).mono ?_); (case side1 => exact Glob.below HG.out (by repeat (first | (with_reducible first | exact HB.out | apply below_alloc | apply pw_below_drewN | apply below_drew1 | refine below_set ?_ GE304.out | refine below_set ?_ GE312.out) | exact HB.out))); rintro e w62 ⟨rfl, hb⟩; refine ⟨_, rfl, ?_⟩; have n0_ := Aside0.mk (Kd.N_below (by (with_reducible repeat (first | apply Kd.N_alloc | apply Kd.N_drewN | apply Kd.N_drew)); exact HO_7.out) hb); have n1_ := Aside0.mk (Kd.N_below (by (with_reducible repeat (first | apply Kd.N_alloc | apply Kd.N_drewN | apply Kd.N_drew)); exact HO_8.out) hb); have n2_ := Aside0.mk (Kd.N_below (by (with_reducible repeat (first | apply Kd.N_alloc | apply Kd.N_drewN | apply Kd.N_drew)); exact HO_34.out) hb); have n3_ := Aside0.mk (Kd.V_below (by (with_reducible repeat (first | apply Kd.V_alloc | apply Kd.V_drewN | apply Kd.V_drew)); exact HL320_1.out) hb); have nq_ := Aside0.mk (Kd.V_below (by (with_reducible repeat (first | apply Kd.V_alloc | apply Kd.V_drewN | apply Kd.V_drew)); exact HLa_.out) hb); clear HLa_; have HLa_ := nq_; clear nq_; have n4_ := Aside0.mk (blk_below (g := gb304) (o := .cells #[.slice A0_0 l0_0.length c0_0, .int .i64 a0_1, .slice A0_2 l0_2.length c0_2] 32 (0, 0)) (by (with_reducible repeat (first | refine blk_drewN ?_ _ | refine blk_drew ?_ | refine blk_alloc ?_ _)); exact BK304.out) hb); have n5_ := Aside0.mk (blk_below (g := gb312) (o := .cells #[.int .i64 ((rd_T83 t308 x36_1).f0), .slice A311_1 ((rd_T83 t308 x36_1).f1).length c311_1] 83 (0, 0)) (by (with_reducible repeat (first | refine blk_drewN ?_ _ | refine blk_drew ?_ | refine blk_alloc ?_ _)); exact BK312.out) hb); have n6_ := Aside0.mk (Kd.C_below (by repeat (first | (with_reducible exact HR320_1.out) | (with_reducible refine Kd.C_alloc ?_ _) | (with_reducible refine Kd.C_drewN ?_ _) | (with_reducible refine Kd.C_drew ?_) | exact HR320_1.out)) hb); have n7_ := Aside0.mk (below_step (by repeat (first | (with_reducible first | exact HB.out | apply below_alloc | apply pw_below_drewN | apply below_drew1 | refine below_set ?_ GE304.out | refine below_set ?_ GE312.out) | exact HB.out)) hb); clear HO_7; clear HO_8; clear HO_34; clear HL320_1; clear BK304; clear BK312; clear HR320_1; clear HB; have HO_7 := n0_; have HO_8 := n1_; have HO_34 := n2_; have HL320_1 := n3_; have BK304 := n4_; have BK312 := n5_; have HR320_1 := n6_; have HB := n7_; clear n0_ n1_ n2_ n3_ n4_ n5_ n6_ n7_; (try clear hb); (try clear hb2); (try clear hk); (try clear hi)) | ((with_reducible refine gate_callee (f := 37) rfl ?_); refine goesL_ (some 63) rfl rfl Tryz.func37 (by kernel_rfl) rfl #[.string t314, .string t322] rfl (by (try simp only [List.map_toArray, List.map_cons, List.map_nil]); first | done | rfl | (simp only [List.length_drop, List.length_take]; rfl)) ?_; (with_reducible refine (whole_Compare.calls t314 t322 t323 _ A30.out).mono ?_); rintro e w63 ⟨rfl, hb⟩; refine ⟨_, rfl, ?_⟩; have n0_ := Aside0.mk (Kd.N_below (by (with_reducible repeat (first | apply Kd.N_alloc | apply Kd.N_drewN | apply Kd.N_drew)); exact HO_7.out) hb); have n1_ := Aside0.mk (Kd.N_below (by (with_reducible repeat (first | apply Kd.N_alloc | apply Kd.N_drewN | apply Kd.N_drew)); exact HO_8.out) hb); have n2_ := Aside0.mk (Kd.N_below (by (with_reducible repeat (first | apply Kd.N_alloc | apply Kd.N_drewN | apply Kd.N_drew)); exact HO_34.out) hb); have n3_ := Aside0.mk (Kd.V_below (by (with_reducible repeat (first | apply Kd.V_alloc | apply Kd.V_drewN | apply Kd.V_drew)); exact HL320_1.out) hb); have nq_ := Aside0.mk (Kd.V_below (by (with_reducible repeat (first | apply Kd.V_alloc | apply Kd.V_drewN | apply Kd.V_drew)); exact HLa_.out) hb); clear HLa_; have HLa_ := nq_; clear nq_; have n4_ := Aside0.mk (blk_below (g := gb304) (o := .cells #[.slice A0_0 l0_0.length c0_0, .int .i64 a0_1, .slice A0_2 l0_2.length c0_2] 32 (0, 0)) (by (with_reducible repeat (first | refine blk_drewN ?_ _ | refine blk_drew ?_ | refine blk_alloc ?_ _)); exact BK304.out) hb); have n5_ := Aside0.mk (blk_below (g := gb312) (o := .cells #[.int .i64 ((rd_T83 t308 x36_1).f0), .slice A311_1 ((rd_T83 t308 x36_1).f1).length c311_1] 83 (0, 0)) (by (with_reducible repeat (first | refine blk_drewN ?_ _ | refine blk_drew ?_ | refine blk_alloc ?_ _)); exact BK312.out) hb); have n6_ := Aside0.mk (Kd.C_below (by repeat (first | (with_reducible exact HR320_1.out) | (with_reducible refine Kd.C_alloc ?_ _) | (with_reducible refine Kd.C_drewN ?_ _) | (with_reducible refine Kd.C_drew ?_) | exact HR320_1.out)) hb); have n7_ := Aside0.mk (below_step (by repeat (first | (with_reducible first | exact HB.out | apply below_alloc | apply pw_below_drewN | apply below_drew1 | refine below_set ?_ GE304.out | refine below_set ?_ GE312.out) | exact HB.out)) hb); clear HO_7; clear HO_8; clear HO_34; clear HL320_1; clear BK304; clear BK312; clear HR320_1; clear HB; have HO_7 := n0_; have HO_8 := n1_; have HO_34 := n2_; have HL320_1 := n3_; have BK304 := n4_; have BK312 := n5_; have HR320_1 := n6_; have HB := n7_; clear n0_ n1_ n2_ n3_ n4_ n5_ n6_ n7_; (try clear hb); (try clear hb2); (try clear hk); (try clear hi)))
              have n0_ := Aside0.mk (Kd.N_drew HO_7.out)
              have n1_ := Aside0.mk (Kd.N_drew HO_8.out)
              have n2_ := Aside0.mk (Kd.N_drew HO_34.out)
              have n3_ := Aside0.mk (Kd.V_drew HL320_1.out); have nq_ := Aside0.mk (Kd.V_drew HLa_.out); clear HLa_; have HLa_ := nq_; clear nq_
              have n4_ := Aside0.mk (blk_drew BK304.out)
              have n5_ := Aside0.mk (blk_drew BK312.out)
              have n6_ := Aside0.mk (Kd.C_drew HR320_1.out)
              have n7_ := Aside0.mk (below_drew1 HB.out)
              clear HO_7
              clear HO_8
              clear HO_34
              clear HL320_1
              clear BK304
              clear BK312
              clear HR320_1
              clear HB
              have HO_7 := n0_
              have HO_8 := n1_
              have HO_34 := n2_
              have HL320_1 := n3_
              have BK304 := n4_
              have BK312 := n5_
              have HR320_1 := n6_
              have HB := n7_
              clear n0_ n1_ n2_ n3_ n4_ n5_ n6_ n7_
              have p329 : 0 ≤ (x13_2 : Int) := of_decide_eq_true (by with_reducible assumption)
              have q329 : x13_2 < (t308.length : Int) := of_decide_eq_true (by with_reducible assumption)
              obtain ⟨ad329, A329_1, c329_1, e329, hx329_0, hx329_1, hl329_1, hi329_1⟩ := at_T83 (Kd.N_reads' HO_7.out).2.2 x13_2 p329 q329
              obtain rfl : ad311 = ad329 := (by injection e329)
              obtain ⟨ce329, hce329, hMe329, hcc329⟩ := Kd.N_get HO_7.out z83 x13_2 p329 (by first | exact q329 | exact of_decide_eq_true (by with_reducible assumption) | (have e_ := (Kd.N_reads' HO_7.out).1; omega))
              obtain ⟨ua329_1, uc329_1, rfl, ul329_1, ge329_1⟩ := k83_openF hMe329
              have hv329_1 := hcc329 1 _ rfl
              rw [add_field _ _ 1 (by omega)] at hv329_1
              replace hv329_1 := Option.some.inj (hv329_1.symm.trans hx329_1)
              injection hv329_1 with hva_ hvn_ hvc_
              rw [hva_] at ge329_1
              rw [hvc_] at ul329_1
              have HL329_1 := Aside0.mk (show Kd.V (Kd.int .i64) 3 _ w.heap.size _ _ ((rd_T83 t308 x13_2).f1) from Kd.V_mk ul329_1 ge329_1)
              clear hva_ hvn_ hvc_ ge329_1 ul329_1
              clear hcc329 hce329
              have HR329_1 := Aside0.mk hi329_1
              have HC329_1 := Aside0.mk hl329_1
              clear hi329_1 hl329_1
              replace p329 := eq_true p329
              replace q329 := eq_true q329
              refine start_ (n := 7) (S := fun w' => w'.cell? ⟨gb312, 0, none⟩ = some (.int .i64 ((rd_T83 t308 x36_1).f0)) ∧ w'.cell? ⟨gb312, 1, none⟩ = some (.slice A311_1 ((rd_T83 t308 x36_1).f1).length c311_1) ∧ w'.cell? (ad311.add ((x13_2).toNat * 2)) = some (.int .i64 ((rd_T83 t308 x13_2).f0)) ∧ w'.cell? ⟨(ad311.add ((x13_2).toNat * 2)).block, (ad311.add ((x13_2).toNat * 2)).off + 1, none⟩ = some (.slice A329_1 ((rd_T83 t308 x13_2).f1).length c329_1)) (ds := []) #[false, false, false, false, false, false, false] (by kernel_rfl) rfl rfl ⟨(blk_cell BK312.out 0).trans rfl, (blk_cell BK312.out 1).trans rfl, hx329_0, hx329_1⟩ (fun hHeld => ?_)
              generalize w63.drew = w64 at HLa_ HO_7 HO_8 HO_34 HL320_1 BK304 BK312 HR320_1 HB HL329_1 HR329_1 hx329_0 hx329_1 hHeld ⊢
              refine pure_ (i := 1) (N := some 66) (v := ?_) (a' := ?_) #[false, true, false, false, false, false, false] rfl rfl (by kernel_rfl) (fun _ _ _ h => h) (Or.inl ⟨by rfl, ?_⟩) ?_ ?_
              rotate_left
              ·intro w'
               go_simp
               with_reducible rfl
              rotate_left
              ·simp only [Act.put, List.setIfInBounds_toArray, List.set_cons_zero, List.set_cons_succ, i64_w, i32_w]
               rfl
              refine pure_ (i := 2) (N := some 67) (v := ?_) (a' := ?_) #[false, true, true, false, false, false, false] rfl rfl (by kernel_rfl) (fun _ _ _ h => h) (Or.inl ⟨by rfl, ?_⟩) ?_ ?_
              rotate_left
              ·intro w'
               go_simp
               with_reducible rfl
              rotate_left
              ·simp only [Act.put, List.setIfInBounds_toArray, List.set_cons_zero, List.set_cons_succ, i64_w, i32_w]
               rfl
              refine pure_ (i := 3) (N := some 68) (v := ?_) (a' := ?_) #[false, true, true, true, false, false, false] rfl rfl (by kernel_rfl) (fun _ _ _ h => h) (Or.inl ⟨by rfl, ?_⟩) ?_ ?_
              rotate_left
              ·intro w'
               go_simp
               with_reducible rfl
              rotate_left
              ·simp only [Act.put, List.setIfInBounds_toArray, List.set_cons_zero, List.set_cons_succ, i64_w, i32_w]
               rfl
              refine take_ (i := 0) (N := some 65) (v := ?_) (a' := ?_) #[true, true, true, true, false, false, false] rfl rfl (by kernel_rfl) (fun _ _ _ h => h) (Or.inl ⟨by rfl, ?_⟩) hHeld ?_ ?_
              rotate_left
              ·rintro w' ⟨s0, s1, s2, s3⟩
               go_simp
               with_reducible rfl
              rotate_left
              ·simp only [Act.put, List.setIfInBounds_toArray, List.set_cons_zero, List.set_cons_succ, i64_w, i32_w]
               rfl
              refine take_ (i := 4) (N := some 69) (v := ?_) (a' := ?_) #[true, true, true, true, true, false, false] rfl rfl (by kernel_rfl) (fun _ _ _ h => h) (Or.inl ⟨by rfl, ?_⟩) hHeld ?_ ?_
              rotate_left
              ·rintro w' ⟨s0, s1, s2, s3⟩
               go_simp
               with_reducible rfl
              rotate_left
              ·simp only [Act.put, List.setIfInBounds_toArray, List.set_cons_zero, List.set_cons_succ, i64_w, i32_w]
               rfl
              refine one_ (i := 5) (N := some 70) #[true, true, true, true, true, true, false] rfl rfl (by kernel_rfl) (by decide) (fun K hK => ?_)
              refine goes_ Tryz.func42 (by kernel_rfl) rfl #[.agg #[.int .i64 ((rd_T83 t308 x36_1).f0), .slice A311_1 ((rd_T83 t308 x36_1).f1).length c311_1], .agg #[.int .i64 ((rd_T83 t308 x13_2).f0), .slice A329_1 ((rd_T83 t308 x13_2).f1).length c329_1]] (by rfl) rfl rfl (by (try simp only [List.map_toArray, List.map_cons, List.map_nil]); first | done | rfl | (simp only [List.length_drop, List.length_take]; rfl)) ?_
              with_reducible refine (comma_apart.calls k2 ((rd_T83 t308 x36_1).f0) _ _ ((rd_T83 t308 x36_1).f1) ((rd_T83 t308 x13_2).f0) _ _ ((rd_T83 t308 x13_2).f1) false _ ?side1 ?side2 ?side3 ?side4 A40.out).mono ?_
              (case side1 => repeat (first | exact ((Kd.V_reads' HLa_.out).2.2) | (with_reducible refine Kd.C_alloc ?_ _) | (with_reducible refine Kd.C_drewN ?_ _) | (with_reducible refine Kd.C_drew ?_)))
              (case side2 => exact HC311_1.out)
              (case side3 => repeat (first | exact (by repeat (first | (with_reducible exact HR329_1.out) | (with_reducible refine Kd.C_alloc ?_ _) | (with_reducible refine Kd.C_drewN ?_ _) | (with_reducible refine Kd.C_drew ?_) | exact HR329_1.out)) | (with_reducible refine Kd.C_alloc ?_ _) | (with_reducible refine Kd.C_drewN ?_ _) | (with_reducible refine Kd.C_drew ?_)))
              (case side4 => exact HC329_1.out)
              rintro e w65 ⟨rfl, hb⟩
              have HS2_ := (hb.cell (World.block_lt_of_cell? _ _ (hHeld.2.2.1))).trans (hHeld.2.2.1)
              have HS3_ := (hb.cell (World.block_lt_of_cell? _ _ (hHeld.2.2.2))).trans (hHeld.2.2.2)
              refine ⟨_, rfl, ?_⟩
              have n0_ := Aside0.mk (Kd.N_below (by (with_reducible repeat (first | apply Kd.N_alloc | apply Kd.N_drewN | apply Kd.N_drew)); exact HO_7.out) hb)
              have n1_ := Aside0.mk (Kd.N_below (by (with_reducible repeat (first | apply Kd.N_alloc | apply Kd.N_drewN | apply Kd.N_drew)); exact HO_8.out) hb)
              have n2_ := Aside0.mk (Kd.N_below (by (with_reducible repeat (first | apply Kd.N_alloc | apply Kd.N_drewN | apply Kd.N_drew)); exact HO_34.out) hb)
              have n3_ := Aside0.mk (Kd.V_below (by (with_reducible repeat (first | apply Kd.V_alloc | apply Kd.V_drewN | apply Kd.V_drew)); exact HL320_1.out) hb); have nq_ := Aside0.mk (Kd.V_below (by (with_reducible repeat (first | apply Kd.V_alloc | apply Kd.V_drewN | apply Kd.V_drew)); exact HLa_.out) hb); clear HLa_; have HLa_ := nq_; clear nq_
              have n4_ := Aside0.mk (Kd.V_below (by (with_reducible repeat (first | apply Kd.V_alloc | apply Kd.V_drewN | apply Kd.V_drew)); exact HL329_1.out) hb)
              have n5_ := Aside0.mk (blk_below (g := gb304) (o := .cells #[.slice A0_0 l0_0.length c0_0, .int .i64 a0_1, .slice A0_2 l0_2.length c0_2] 32 (0, 0)) (by (with_reducible repeat (first | refine blk_drewN ?_ _ | refine blk_drew ?_ | refine blk_alloc ?_ _)); exact BK304.out) hb)
              have n6_ := Aside0.mk (blk_below (g := gb312) (o := .cells #[.int .i64 ((rd_T83 t308 x36_1).f0), .slice A311_1 ((rd_T83 t308 x36_1).f1).length c311_1] 83 (0, 0)) (by (with_reducible repeat (first | refine blk_drewN ?_ _ | refine blk_drew ?_ | refine blk_alloc ?_ _)); exact BK312.out) hb)
              have n7_ := Aside0.mk (Kd.C_below (by repeat (first | (with_reducible exact HR320_1.out) | (with_reducible refine Kd.C_alloc ?_ _) | (with_reducible refine Kd.C_drewN ?_ _) | (with_reducible refine Kd.C_drew ?_) | exact HR320_1.out)) hb)
              have n8_ := Aside0.mk (Kd.C_below (by repeat (first | (with_reducible exact HR329_1.out) | (with_reducible refine Kd.C_alloc ?_ _) | (with_reducible refine Kd.C_drewN ?_ _) | (with_reducible refine Kd.C_drew ?_) | exact HR329_1.out)) hb)
              have n9_ := Aside0.mk (below_step (by repeat (first | (with_reducible first | exact HB.out | apply below_alloc | apply pw_below_drewN | apply below_drew1 | refine below_set ?_ GE304.out | refine below_set ?_ GE312.out) | exact HB.out)) hb)
              clear HO_7
              clear HO_8
              clear HO_34
              clear HL320_1
              clear HL329_1
              clear BK304
              clear BK312
              clear HR320_1
              clear HR329_1
              clear HB
              have HO_7 := n0_
              have HO_8 := n1_
              have HO_34 := n2_
              have HL320_1 := n3_
              have HL329_1 := n4_
              have BK304 := n5_
              have BK312 := n6_
              have HR320_1 := n7_
              have HR329_1 := n8_
              have HB := n9_
              clear n0_ n1_ n2_ n3_ n4_ n5_ n6_ n7_ n8_ n9_
              (try clear hb)
              (try clear hb2)
              (try clear hk)
              (try clear hi)
              refine hK.out _ _ ⟨(blk_cell BK312.out 0).trans rfl, (blk_cell BK312.out 1).trans rfl, HS2_, HS3_⟩ (fun hHeld => ?_)
              clear hK K
              refine norm_ (a' := ?_) ?_ ?_
              rotate_left
              ·show Act.put _ (some 70) _ = _
               simp only [Act.put, List.setIfInBounds_toArray, List.set_cons_zero, List.set_cons_succ, i64_w, i32_w]
               rfl
              refine pure_ (i := 6) (N := some 71) (v := ?_) (a' := ?_) #[true, true, true, true, true, true, true] rfl rfl (by kernel_rfl) (fun _ _ _ h => h) (Or.inl ⟨by rfl, ?_⟩) ?_ ?_
              rotate_left
              ·intro w'
               go_simp
               with_reducible rfl
              rotate_left
              ·simp only [Act.put, List.setIfInBounds_toArray, List.set_cons_zero, List.set_cons_succ, i64_w, i32_w]
               rfl
              refine done_ (by kernel_rfl) ?_
              try go_wp2
              go_roundg k2
              case measure => have := HK1.out; have := HK2.out; omega
              case rel => exact ⟨(x8_2), (wrap64 (x13_2 - 1)), (by first | rfl | (simp; done) | (simp [*]; done)), H', ⟨by have := HK1.out; have := HK2.out; omega⟩, ⟨by (with_reducible repeat (first | apply Kd.N_alloc | apply Kd.N_drewN | apply Kd.N_drew)); exact HO_7.out⟩, ⟨by (with_reducible repeat (first | apply Kd.N_alloc | apply Kd.N_drewN | apply Kd.N_drew)); exact HO_8.out⟩, ⟨by (with_reducible repeat (first | apply Kd.N_alloc | apply Kd.N_drewN | apply Kd.N_drew)); exact HO_34.out⟩, ⟨by (with_reducible repeat (first | refine blk_drewN ?_ _ | refine blk_drew ?_ | refine blk_alloc ?_ _)); exact BK304.out⟩, ⟨by (with_reducible repeat (first | refine blk_drewN ?_ _ | refine blk_drew ?_ | refine blk_alloc ?_ _)); exact BK312.out⟩, ⟨by (with_reducible repeat (first | apply Kd.V_alloc | apply Kd.V_drewN | apply Kd.V_drew)); first | with_reducible exact HLa_.out | exact Kd.V_mono HLa_.out (fun _ hk => ⟨⟨hk.1.1, hk.2, hk.1.2.2.2.1, hk.1.2.2.2.2⟩, hk.1.2.1⟩)⟩, ⟨by repeat (first | (with_reducible first | exact HB.out | apply below_alloc | apply pw_below_drewN | apply below_drew1 | refine below_set ?_ GE304.out | refine below_set ?_ GE312.out) | exact HB.out)⟩⟩
           ·rw [if_neg c27] at H
            exact absurd H (by simp)
          ·rw [if_neg c26] at H
           exact absurd H (by simp)
         ·rw [if_neg c25] at H
          have c25b0 : decide (0 ≤ x13_2) = false := decide_eq_false c25
          clear c25
          by_cases c66 : 0 ≤ (x8_1.length : Int)
          ·rw [if_pos c66] at H
           have c66b0 := eq_true c66
           have c66b1 : decide (0 ≤ (x8_1.length : Int)) = true := decide_eq_true c66
           clear c66
           by_cases c67 : (x8_1.length : Int) ≤ (x8_2.length : Int)
           ·rw [if_pos c67] at H
            have c67b0 := eq_true c67
            have c67b1 : decide ((x8_1.length : Int) ≤ (x8_2.length : Int)) = true := decide_eq_true c67
            clear c67
            obtain ⟨y315, hy315⟩ : ∃ y_ : List (List Int), y_ = (x8_2.drop ((x8_1.length : Int) : Int).toNat) := ⟨_, rfl⟩
            replace H : ((g_rev_Row.f x8_2 (x8_1.length : Int)).bind fun z_ => (comma_List.l0 k2 t306 t307 t308 z_ t308 (t308.length : Int) (wrap64 (x36_1 + 1)))) = some (r1, r2) := by first | (rw [hy315]; exact H) | exact H
            have Ny315 := Aside0.mk hy315
            clear hy315
            replace H := Option.bind_eq_some_iff.mp H
            obtain ⟨z_, A680, H⟩ := H
            replace H : (comma_List.l0 k2 t306 t307 t308 z_ t308 (t308.length : Int) (wrap64 (x36_1 + 1))) = some (r1, r2) := H
            have A68 := Aside0.mk A680
            clear A680
            have H' := Aside0.mk H
            clear H
            obtain ⟨Ao70, co70, eo70⟩ := Kd.N_slice HO_8.out
            subst eo70
            have q69 : ((x8_1.length : Int) : Int) ≤ ((x8_2.length : Int) : Int) := of_decide_eq_true (by with_reducible assumption)
            obtain ⟨i069, hi069, _, hsz69, _⟩ := info_parts info30
            have hroom69 : x8_2.length ≤ co70 := (Kd.N_reads' HO_8.out).2.1
            have hC69 : Kd.F (Kd.slice 3 (Kd.int .i64)) _ _ Ao70 x8_2.length x8_2 := (Kd.V_at (base := w.heap.size) (Kd.N_V HO_8.out)).2.2
            have q069 : (0 : Int) ≤ ((x8_1.length : Int) : Int) := of_decide_eq_true (by with_reducible assumption)
            have hcut69 := cut_from (P := Tryz.prog) 36 30 .i64 Tryz.underlying36 hi069 1 hsz69 Ao70 x8_2.length co70 (x8_1.length : Int) q069 q69
            have hr69 := Kd.F_cut (m := ((x8_1.length : Int) : Int).toNat) (c := co70) hC69 (by omega) hroom69
            obtain ⟨A69, hA69⟩ : ∃ A1, A1 = (if co70 = ((x8_1.length : Int) : Int).toNat then Ao70 else (Ao70 : Option Addr).map (·.add (((x8_1.length : Int) : Int).toNat * 1))) := ⟨_, rfl⟩
            obtain ⟨c69, hc69⟩ : ∃ c1, c1 = co70 - ((x8_1.length : Int) : Int).toNat := ⟨_, rfl⟩
            have hy69 : y315.length = x8_2.length - ((x8_1.length : Int) : Int).toNat := (by rw [Ny315.out, List.length_drop] <;> omega)
            rw [show (x8_2).drop ((x8_1.length : Int) : Int).toNat = y315 from Ny315.out.symm] at hr69
            replace hr69 : Kd.F (Kd.slice 3 (Kd.int .i64)) _ _ A69 y315.length y315 := (by rw [hA69]; exact hr69)
            rw [← hy69, ← hA69, ← hc69] at hcut69
            have HO319 := Aside0.mk (show Kd.V (Kd.slice 3 (Kd.int .i64)) 30 _ w.heap.size _ (.slice A69 y315.length c69) y315 from Kd.V_mk (by rw [hy69, hc69]; exact Nat.sub_le_sub_right hroom69 _) hr69)
            have HC319 := Aside0.mk (show y315.length ≤ c69 from by rw [hy69, hc69]; exact Nat.sub_le_sub_right hroom69 _)
            clear hr69 hC69 hroom69 hi069 hsz69 hc69
            have KY69 := Aside0.mk hy69
            have KA69 := Aside0.mk hA69
            clear hy69 hA69
            replace q69 := eq_true q69
            go_wp2_with (first | ((with_reducible refine gate_callee (f := 44) rfl ?_); refine goesL_ (some 93) rfl rfl Tryz.func44 (by kernel_rfl) rfl #[.slice A69 y315.length c69] rfl (by (try simp only [List.map_toArray, List.map_cons, List.map_nil]); first | done | rfl | (simp only [List.length_drop, List.length_take]; rfl)) ?_; (with_reducible refine (g_rev_Row.calls (by (with_reducible repeat (first | apply Kd.N_alloc | apply Kd.N_drewN | apply Kd.N_drew)); exact HO_8.out) KA69.out KY69.out A68.out).mono ?_); rintro e w9_ ⟨rfl, HO9_, hb9_, hg9_⟩; refine ⟨_, rfl, ?_⟩; have n0_ := Aside0.mk (Kd.N_grown (by (with_reducible repeat (first | apply Kd.N_alloc | apply Kd.N_drewN | apply Kd.N_drew)); exact HO_7.out) hg9_ (by intro k_ hk; exact hk.2.1)); have n1_ := Aside0.mk (Kd.N_grown (by (with_reducible repeat (first | apply Kd.N_alloc | apply Kd.N_drewN | apply Kd.N_drew)); exact HO_34.out) hg9_ (by intro k_ hk; exact hk.2.1)); have n2_ := Aside0.mk (blk_grown (by (with_reducible repeat (first | refine blk_drewN ?_ _ | refine blk_drew ?_ | refine blk_alloc ?_ _)); exact BK304.out) hg9_ (Kd.N_ne HO_8.out BK304.out (by decide))); have n3_ := Aside0.mk (blk_grown (by (with_reducible repeat (first | refine blk_drewN ?_ _ | refine blk_drew ?_ | refine blk_alloc ?_ _)); exact BK312.out) hg9_ (Kd.N_ne HO_8.out BK312.out (by decide))); have n4_ := Aside0.mk (Below.trans (by repeat (first | (with_reducible first | exact HB.out | apply below_alloc | apply pw_below_drewN | apply below_drew1 | refine below_set ?_ GE304.out | refine below_set ?_ GE312.out) | exact HB.out)) hb9_); have n5_ := Aside0.mk HO9_; clear HO_7 HO_34 BK304 BK312 HB HO_8; have HO_7 := n0_; have HO_34 := n1_; have BK304 := n2_; have BK312 := n3_; have HB := n4_; have HO_8 := n5_; clear n0_ n1_ n2_ n3_ n4_ n5_ HO9_ hb9_ hg9_))
            go_roundg k2
            case measure => have := HK1.out; have := HK2.out; omega
            case rel => exact ⟨(z_), (wrap64 (x36_1 + 1)), (by first | rfl | (simp; done) | (simp [*]; done)), H', ⟨by have := HK1.out; have := HK2.out; omega⟩, ⟨by (with_reducible repeat (first | apply Kd.N_alloc | apply Kd.N_drewN | apply Kd.N_drew)); exact Kd.N_mono HO_7.out (fun _ hk => ⟨hk.1, ⟨hk.2.1, hk.2.2.1⟩⟩)⟩, ⟨by (with_reducible repeat (first | apply Kd.N_alloc | apply Kd.N_drewN | apply Kd.N_drew)); exact Kd.N_mono HO_8.out (fun _ hk => ⟨hk.1, ⟨hk.2.1, ⟨hk.2.2.1, hk.2.2.2.1⟩⟩⟩)⟩, ⟨by (with_reducible repeat (first | apply Kd.N_alloc | apply Kd.N_drewN | apply Kd.N_drew)); exact Kd.N_mono HO_34.out (fun _ hk => ⟨hk.1, ⟨hk.2.1, hk.2.2.1⟩⟩)⟩, ⟨by (with_reducible repeat (first | refine blk_drewN ?_ _ | refine blk_drew ?_ | refine blk_alloc ?_ _)); exact BK304.out⟩, ⟨by repeat (first | (with_reducible first | exact HB.out | apply below_alloc | apply pw_below_drewN | apply below_drew1 | refine below_set ?_ GE304.out | refine below_set ?_ GE312.out) | exact HB.out)⟩⟩
           ·rw [if_neg c67] at H
            exact absurd H (by simp)
          ·rw [if_neg c66] at H
           exact absurd H (by simp)
      ·rw [if_neg c16] at H
       exact absurd H (by simp)
     ·rw [if_neg c15] at H
      exact absurd H (by simp)
    ·rw [if_neg c14] at H
     have c14b0 : decide (x36_1 < (t308.length : Int)) = false := decide_eq_false c14
     clear c14
     simp only [Option.some.injEq, Prod.mk.injEq] at H
     obtain ⟨rfl, rfl⟩ := H
     go_wp2
     go_ret2
     exact ⟨_, by first | rfl | (simp [errW_none, errW_some] <;> rfl) | (simp [*, errW_none, errW_some] <;> rfl), by (with_reducible repeat (first | apply Kd.N_alloc | apply Kd.N_drewN | apply Kd.N_drew)); exact Kd.N_mono HO_8.out (fun _ hk => hk.1), by repeat (first | (with_reducible first | exact HB.out | apply below_alloc | apply pw_below_drewN | apply below_drew1 | refine below_set ?_ GE304.out) | exact HB.out)⟩
 ·rw [if_neg c3] at H
  have c3b0 : (t305 == 0) = false := beq_eq_false_iff_ne.mpr c3
  have c3b1 : (t305 != 0) = true := bne_iff_ne.mpr c3
  simp only [Option.some.injEq, Prod.mk.injEq] at H
  obtain ⟨rfl, rfl⟩ := H
  go_enter Tryz.func14, Tryz.ntmps14
  go_wp2_with (first | ((with_reducible refine gate_dst (N := 1) rfl ?_); refine box_event ?hg (N := 1) ?hd (cs := #[.slice A0_0 l0_0.length c0_0, .int .i64 a0_1, .slice A0_2 l0_2.length c0_2]) (t := 32) ?hr ?_; (case hd => rfl); (case hg => rfl); (case hr => first | (go_simp; done) | (go_simp; rfl)); intro gb304 hg w71 hbox hb; have n0_ := Aside0.mk (below_step (by with_reducible repeat first | exact HB.out | apply below_alloc | apply pw_below_drewN | apply below_drew1) hb); have n1_ := Aside0.mk (hbox); have n2_ := Aside0.mk ((by rw [hg]; exact (below_size (by with_reducible repeat first | exact HB.out | apply below_alloc | apply pw_below_drewN | apply below_drew1)) : w.heap.size ≤ gb304)); have n3_ := Aside0.mk ((by rw [hg]; exact (below_size (by with_reducible repeat first | exact HB.out | apply below_alloc | apply pw_below_drewN | apply below_drew1)) : w.heap.size ≤ gb304)); clear HB; have HB := n0_; have BK304 := n1_; have GW304 := n2_; have GE304 := n3_; clear n0_ n1_ n2_ n3_; clear hb hbox hg; have hcz72_0 : w71.cell? ⟨gb304, 0, none⟩ = some (.slice A0_0 l0_0.length c0_0) := (blk_cell BK304.out 0).trans rfl; have hcz72_1 : w71.cell? ⟨gb304, 1, none⟩ = some (.int .i64 a0_1) := (blk_cell BK304.out 1).trans rfl; have hcz72_2 : w71.cell? ⟨gb304, 2, none⟩ = some (.slice A0_2 l0_2.length c0_2) := (blk_cell BK304.out 2).trans rfl; have hfz72_0 := blk_frozen BK304.out 0; have hfz72_1 := blk_frozen BK304.out 1; have hfz72_2 := blk_frozen BK304.out 2) | ((with_reducible refine gate_callee (f := 33) rfl ?_); refine goesL_ (some 17) rfl rfl Tryz.func33 (by kernel_rfl) rfl #[.agg #[.slice A0_0 l0_0.length c0_0, .int .i64 a0_1, .slice A0_2 l0_2.length c0_2]] rfl (by (try simp only [List.map_toArray, List.map_cons, List.map_nil]); first | done | rfl | (simp only [List.length_drop, List.length_take]; rfl)) ?_; (with_reducible refine (comma_Check.calls k _ _ l0_0 a0_1 _ _ l0_2 t305 _ ?side1 ?side2 ?side3 ?side4 ?side5 A2.out).mono ?_); (case side1 => exact Glob.below HG.out (by repeat (first | (with_reducible first | exact HB.out | apply below_alloc | apply pw_below_drewN | apply below_drew1 | refine below_set ?_ GE304.out) | exact HB.out))); (case side2 => repeat (first | exact (Kd.C_below HR0_0.out HB.out) | (with_reducible refine Kd.C_alloc ?_ _) | (with_reducible refine Kd.C_drewN ?_ _) | (with_reducible refine Kd.C_drew ?_))); (case side3 => exact HC0_0.out); (case side4 => repeat (first | exact (Kd.C_below HR0_2.out HB.out) | (with_reducible refine Kd.C_alloc ?_ _) | (with_reducible refine Kd.C_drewN ?_ _) | (with_reducible refine Kd.C_drew ?_))); (case side5 => exact HC0_2.out); rintro e w73 ⟨rfl, hb⟩; refine ⟨_, rfl, ?_⟩; have n0_ := Aside0.mk (blk_below (g := gb304) (o := .cells #[.slice A0_0 l0_0.length c0_0, .int .i64 a0_1, .slice A0_2 l0_2.length c0_2] 32 (0, 0)) (by (with_reducible repeat (first | refine blk_drewN ?_ _ | refine blk_drew ?_ | refine blk_alloc ?_ _)); exact BK304.out) hb); have n1_ := Aside0.mk (below_step (by repeat (first | (with_reducible first | exact HB.out | apply below_alloc | apply pw_below_drewN | apply below_drew1 | refine below_set ?_ GE304.out) | exact HB.out)) hb); clear BK304; clear HB; have BK304 := n0_; have HB := n1_; clear n0_ n1_; (try clear hb); (try clear hb2); (try clear hk); (try clear hi)))
  go_ret2
  exact ⟨_, by first | rfl | (simp [errW_none, errW_some] <;> rfl) | (simp [*, errW_none, errW_some] <;> rfl), by first | exact Kd.S_nil _ _ _ _ _ | exact Kd.N_nil _ _ _ _ _ | exact Kd.V_nil _ _ _ _ _ | exact Kd.Q_nil _ _ _ _ _ | exact Kd.R_nil _ _ _ _ _, by repeat (first | (with_reducible first | exact HB.out | apply below_alloc | apply pw_below_drewN | apply below_drew1 | refine below_set ?_ GE304.out) | exact HB.out)⟩
end Go.Proofs.YtobdccgpbohpiaaGreatDoor.F
