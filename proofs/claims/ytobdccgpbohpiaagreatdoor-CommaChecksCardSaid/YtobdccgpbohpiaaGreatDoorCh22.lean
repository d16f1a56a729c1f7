/- Ch: a part of the proof. -/
import Derived.Deep.RegionWith
import Derived.StillTailTactics
import Derived.Test.YtobdccgpbohpiaaGreatDoorCh14
import Derived.Test.YtobdccgpbohpiaaGreatDoorCh16
import Derived.Test.YtobdccgpbohpiaaGreatDoorCh19
import Derived.Test.YtobdccgpbohpiaaGreatDoorCh20
import Derived.Test.YtobdccgpbohpiaaGreatDoorCh21
namespace Go.Proofs.YtobdccgpbohpiaaGreatDoor.F
set_option maxHeartbeats 8000000
set_option maxRecDepth 100000
open Go.RowKit Go.Proofs.YtobdccgpbohpiaaGreatDoorW.PrintWords Go.Proofs.YtobdccgpbohpiaaGreatDoorW.PrintLast Go.Proofs.YtobdccgpbohpiaaGreatDoorW.PrintMore
attribute [local go_sem] max2_int min2_int max_two min_two max_three min_three max_four min_four
set_option linter.unusedVariables false
set_option linter.unusedSimpArgs false
def comma_Check.j0 : Nat → Int → Bool → Option (Int)
 | 0, _, _ => none
 | k + 1, x3, x17 => if x17 = true then (some 3) else (if x3 ≤ 0 then (some 3) else (some 0))
def comma_Check.f (k : Nat) (l0_0 : List Int) (a0_1 : Int) (l0_2 : List Int) : Option (Int) := (monzo_Sign.f k l0_0 l0_2).bind fun bt267 => (if bt267.2 = 0 then (if a0_1 < 1 then (comma_Check.j0 k bt267.1 true) else (comma_Check.j0 k bt267.1 (decide (a0_1 > 5000)))) else (some bt267.2))
theorem comma_Check.mono_l : ∀ k, (∀ y0 y1, LeO (comma_Check.j0 k y0 y1) (comma_Check.j0 (k + 1) y0 y1))
 | 0 => fun _ _ r h => by simp [comma_Check.j0] at h
 | k + 1 => by
  have ih0 := comma_Check.mono_l k
  ·intro y0 y1
   unfold comma_Check.j0
   repeat' first
   | (with_reducible exact ih0 _ _)
   | with_reducible apply monzo_Sign.mono
   | (with_reducible exact LeO.refl _)
   | (with_reducible exact LeO.none _)
   | (with_reducible refine LeO.ite ?_ ?_)
   | (with_reducible refine LeO.bind ?_ (fun _ => ?_))
   | refine LeO.ite ?_ ?_
   | refine LeO.bind ?_ (fun _ => ?_)
theorem comma_Check.mono : ∀ a0 a1 a2 k, LeO (comma_Check.f k a0 a1 a2) (comma_Check.f (k + 1) a0 a1 a2) := by
 intro a0 a1 a2 k
 have ih0 := comma_Check.mono_l k
 unfold comma_Check.f
 repeat' first
   | (with_reducible exact ih0 _ _)
   | with_reducible apply monzo_Sign.mono
   | (with_reducible exact LeO.refl _)
   | (with_reducible exact LeO.none _)
   | (with_reducible refine LeO.ite ?_ ?_)
   | (with_reducible refine LeO.bind ?_ (fun _ => ?_))
   | refine LeO.ite ?_ ?_
   | refine LeO.bind ?_ (fun _ => ?_)
theorem comma_Check.calls (k : Nat) (A0_0 : Option Addr) (c0_0 : Nat) (l0_0 : List Int) (a0_1 : Int) (A0_2 : Option Addr) (c0_2 : Nat) (l0_2 : List Int) (r : Int) (w : World) (hG : Glob w) (hr0_0 : Kd.C (Kd.int .i64) w A0_0 l0_0.length l0_0) (hc0_0 : l0_0.length ≤ c0_0) (hr0_2 : Kd.C (Kd.int .i64) w A0_2 l0_2.length l0_2) (hc0_2 : l0_2.length ≤ c0_2) (h : comma_Check.f k l0_0 a0_1 l0_2 = some r) :
  Calls Tryz.prog 33 #[.agg #[.slice A0_0 l0_0.length c0_0, .int .i64 a0_1, .slice A0_2 l0_2.length c0_2]] w fun e w' => e = .returned (.int .i64 r) ∧ Below w.heap.size w w' := by
 have hu32 := Tryz.underlying32
 have HG := Aside0.mk hG
 clear hG
 have HR0_0 := Aside0.mk hr0_0
 have HC0_0 := Aside0.mk hc0_0
 clear hr0_0 hc0_0
 have HR0_2 := Aside0.mk hr0_2
 have HC0_2 := Aside0.mk hc0_2
 clear hr0_2 hc0_2
 have HB := Aside0.mk (Below.refl w.heap.size w)
 have H : ((monzo_Sign.f k l0_0 l0_2).bind fun bt267 => (if bt267.2 = 0 then (if a0_1 < 1 then (comma_Check.j0 k bt267.1 true) else (comma_Check.j0 k bt267.1 (decide (a0_1 > 5000)))) else (some bt267.2))) = some r := h
 clear h
 replace H := Option.bind_eq_some_iff.mp H
 obtain ⟨⟨t267, t268⟩, A20, H⟩ := H
 replace H : (if t268 = 0 then (if a0_1 < 1 then (comma_Check.j0 k t267 true) else (comma_Check.j0 k t267 (decide (a0_1 > 5000)))) else (some t268)) = some r := H
 have A2 := Aside0.mk A20
 clear A20
 by_cases c3 : t268 = 0
 ·rw [if_pos c3] at H
  have c3b0 : (t268 == 0) = true := beq_iff_eq.mpr c3
  have c3b1 : (t268 != 0) = false := bne_eq_false_iff_eq.mpr c3
  clear c3
  have HC4 := Aside0.mk H
  clear H
  go_enter Tryz.func33, Tryz.ntmps33
  go_upto_region 4 with (first | ((with_reducible refine gate_dst (N := 1) rfl ?_); refine box_event ?hg (N := 1) ?hd (cs := #[.slice A0_0 l0_0.length c0_0, .int .i64 a0_1, .slice A0_2 l0_2.length c0_2]) (t := 32) ?hr ?_; (case hd => rfl); (case hg => rfl); (case hr => first | (go_simp; done) | (go_simp; rfl)); intro gb266 hg w5 hbox hb; have n0_ := Aside0.mk (below_step (by with_reducible repeat first | exact HB.out | apply below_alloc | apply pw_below_drewN | apply below_drew1) hb); have n1_ := Aside0.mk (hbox); have n2_ := Aside0.mk ((by rw [hg]; exact (below_size (by with_reducible repeat first | exact HB.out | apply below_alloc | apply pw_below_drewN | apply below_drew1)) : w.heap.size ≤ gb266)); have n3_ := Aside0.mk ((by rw [hg]; exact (below_size (by with_reducible repeat first | exact HB.out | apply below_alloc | apply pw_below_drewN | apply below_drew1)) : w.heap.size ≤ gb266)); clear HB; have HB := n0_; have BK266 := n1_; have GW266 := n2_; have GE266 := n3_; clear n0_ n1_ n2_ n3_; clear hb hbox hg; have hcz6_0 : w5.cell? ⟨gb266, 0, none⟩ = some (.slice A0_0 l0_0.length c0_0) := (blk_cell BK266.out 0).trans rfl; have hcz6_1 : w5.cell? ⟨gb266, 1, none⟩ = some (.int .i64 a0_1) := (blk_cell BK266.out 1).trans rfl; have hcz6_2 : w5.cell? ⟨gb266, 2, none⟩ = some (.slice A0_2 l0_2.length c0_2) := (blk_cell BK266.out 2).trans rfl; have hfz6_0 := blk_frozen BK266.out 0; have hfz6_1 := blk_frozen BK266.out 1; have hfz6_2 := blk_frozen BK266.out 2) | ((with_reducible refine gate_callee (f := 22) rfl ?_); refine goesL_ (some 10) rfl rfl Tryz.func22 (by kernel_rfl) rfl #[.slice A0_0 l0_0.length c0_0, .slice A0_2 l0_2.length c0_2] rfl (by (try simp only [List.map_toArray, List.map_cons, List.map_nil]); first | done | rfl | (simp only [List.length_drop, List.length_take]; rfl)) ?_; (with_reducible refine (monzo_Sign.calls k _ _ l0_0 _ _ l0_2 t267 t268 _ ?side1 ?side2 ?side3 ?side4 ?side5 A2.out).mono ?_); (case side1 => exact Glob.below HG.out (by repeat (first | (with_reducible first | exact HB.out | apply below_alloc | apply pw_below_drewN | apply below_drew1 | refine below_set ?_ GE266.out) | exact HB.out))); (case side2 => repeat (first | exact (Kd.C_below HR0_0.out HB.out) | (with_reducible refine Kd.C_alloc ?_ _) | (with_reducible refine Kd.C_drewN ?_ _) | (with_reducible refine Kd.C_drew ?_))); (case side3 => exact HC0_0.out); (case side4 => repeat (first | exact (Kd.C_below HR0_2.out HB.out) | (with_reducible refine Kd.C_alloc ?_ _) | (with_reducible refine Kd.C_drewN ?_ _) | (with_reducible refine Kd.C_drew ?_))); (case side5 => exact HC0_2.out); rintro e w7 ⟨rfl, hb⟩; refine ⟨_, rfl, ?_⟩; have n0_ := Aside0.mk (blk_below (g := gb266) (o := .cells #[.slice A0_0 l0_0.length c0_0, .int .i64 a0_1, .slice A0_2 l0_2.length c0_2] 32 (0, 0)) (by (with_reducible repeat (first | refine blk_drewN ?_ _ | refine blk_drew ?_ | refine blk_alloc ?_ _)); exact BK266.out) hb); have n1_ := Aside0.mk (below_step (by repeat (first | (with_reducible first | exact HB.out | apply below_alloc | apply pw_below_drewN | apply below_drew1 | refine below_set ?_ GE266.out) | exact HB.out)) hb); clear BK266; clear HB; have BK266 := n0_; have HB := n1_; clear n0_ n1_; (try clear hb); (try clear hb2); (try clear hk); (try clear hi)))
  (try simp only [Act.put, List.setIfInBounds_toArray, List.set_cons_zero, List.set_cons_succ])
  go_cut [17] (fun v17 wc => ∃ (kq : Nat) (x17_3 : Bool), v17 = .bool x17_3 ∧ Aside0 (comma_Check.j0 kq t267 x17_3 = some r) ∧ Aside0 (kq ≤ k) ∧ Aside0 (wc.heap[gb266]? = some (.cells #[(.slice A0_0 l0_0.length c0_0), .int .i64 a0_1, (.slice A0_2 l0_2.length c0_2)] 32 (0, 0))) ∧ Aside0 (Below w.heap.size w wc))
  case first =>
   have H := HC4.out
   clear HC4
   by_cases c8 : a0_1 < 1
   ·rw [if_pos c8] at H
    have c8b0 : decide (a0_1 < 1) = true := decide_eq_true c8
    clear c8
    (first | rw [c8b0] | (simp only [i64_w, i32_w]; rw [c8b0]) | skip)
    have H' := Aside0.mk H
    clear H
    have hcz9_0 : w7.cell? ⟨gb266, 0, none⟩ = some (.slice A0_0 l0_0.length c0_0) := (blk_cell BK266.out 0).trans rfl
    have hcz9_1 : w7.cell? ⟨gb266, 1, none⟩ = some (.int .i64 a0_1) := (blk_cell BK266.out 1).trans rfl
    have hcz9_2 : w7.cell? ⟨gb266, 2, none⟩ = some (.slice A0_2 l0_2.length c0_2) := (blk_cell BK266.out 2).trans rfl
    have hfz9_0 := blk_frozen BK266.out 0
    have hfz9_1 := blk_frozen BK266.out 1
    have hfz9_2 := blk_frozen BK266.out 2
    go_wp2
    go_meet
    case rel => exact ⟨_, (true), (by first | rfl | (simp; done) | (simp [*]; done)), H', ⟨by first | omega | exact Nat.le_refl _⟩, ⟨by (with_reducible repeat (first | refine blk_drewN ?_ _ | refine blk_drew ?_ | refine blk_alloc ?_ _)); exact BK266.out⟩, ⟨by repeat (first | (with_reducible first | exact HB.out | apply below_alloc | apply pw_below_drewN | apply below_drew1 | refine below_set ?_ GE266.out) | exact HB.out)⟩⟩
   ·rw [if_neg c8] at H
    have c8b0 : decide (a0_1 < 1) = false := decide_eq_false c8
    clear c8
    (first | rw [c8b0] | (simp only [i64_w, i32_w]; rw [c8b0]) | skip)
    have H' := Aside0.mk H
    clear H
    have hcz10_0 : w7.cell? ⟨gb266, 0, none⟩ = some (.slice A0_0 l0_0.length c0_0) := (blk_cell BK266.out 0).trans rfl
    have hcz10_1 : w7.cell? ⟨gb266, 1, none⟩ = some (.int .i64 a0_1) := (blk_cell BK266.out 1).trans rfl
    have hcz10_2 : w7.cell? ⟨gb266, 2, none⟩ = some (.slice A0_2 l0_2.length c0_2) := (blk_cell BK266.out 2).trans rfl
    have hfz10_0 := blk_frozen BK266.out 0
    have hfz10_1 := blk_frozen BK266.out 1
    have hfz10_2 := blk_frozen BK266.out 2
    go_wp2
    go_meet
    case rel => exact ⟨_, (decide (a0_1 > 5000)), (by first | rfl | (simp; done) | (simp [*]; done)), H', ⟨by first | omega | exact Nat.le_refl _⟩, ⟨by (with_reducible repeat (first | refine blk_drewN ?_ _ | refine blk_drew ?_ | refine blk_alloc ?_ _)); exact BK266.out⟩, ⟨by repeat (first | (with_reducible first | exact HB.out | apply below_alloc | apply pw_below_drewN | apply below_drew1 | refine below_set ?_ GE266.out) | exact HB.out)⟩⟩
  case rest =>
   clear HC4
   try clear c2
   try clear p2
   try clear c3
   try clear c3b0
   try clear c3b1
   try clear c8
   try clear c8b0
   try clear hcz10_0
   try clear hcz10_1
   try clear hcz10_2
   try clear hcz6_0
   try clear hcz6_1
   try clear hcz6_2
   try clear hcz9_0
   try clear hcz9_1
   try clear hcz9_2
   try clear hfz10_0
   try clear hfz10_1
   try clear hfz10_2
   try clear hfz6_0
   try clear hfz6_1
   try clear hfz6_2
   try clear hfz9_0
   try clear hfz9_1
   try clear hfz9_2
   obtain ⟨kq, x17_3, rfl, HA, HJ3, BK266, HB⟩ := hcut
   cases kq with
   | zero => exact absurd HA.out (by simp [comma_Check.j0])
   | succ kj3 =>
    have H := HA.out
    clear HA
    simp only [comma_Check.j0] at H
    by_cases c11 : x17_3 = true
    ·subst c11
     have H1 : (some 3) = some r := by rw [if_pos rfl] at H; exact H
     clear H
     have H := H1
     clear H1
     obtain rfl := Option.some.inj H
     go_wp2
     go_ret
     exact ⟨by first | rfl | (simp [errW_none, errW_some] <;> rfl) | (simp [*, errW_none, errW_some] <;> rfl), by repeat (first | (with_reducible first | exact HB.out | apply below_alloc | apply pw_below_drewN | apply below_drew1 | refine below_set ?_ GE266.out) | exact HB.out)⟩
    ·replace c11 := Bool.eq_false_iff.mpr c11
     subst c11
     have H1 : (if t267 ≤ 0 then (some 3) else (some 0)) = some r := by rw [if_neg (show ¬ (false = true) by decide)] at H; exact H
     clear H
     have H := H1
     clear H1
     by_cases c12 : t267 ≤ 0
     ·rw [if_pos c12] at H
      have c12b0 : decide (t267 ≤ 0) = true := decide_eq_true c12
      clear c12
      obtain rfl := Option.some.inj H
      go_wp2
      go_ret
      exact ⟨by first | rfl | (simp [errW_none, errW_some] <;> rfl) | (simp [*, errW_none, errW_some] <;> rfl), by repeat (first | (with_reducible first | exact HB.out | apply below_alloc | apply pw_below_drewN | apply below_drew1 | refine below_set ?_ GE266.out) | exact HB.out)⟩
     ·rw [if_neg c12] at H
      have c12b0 : decide (t267 ≤ 0) = false := decide_eq_false c12
      clear c12
      obtain rfl := Option.some.inj H
      go_wp2
      go_ret
      exact ⟨by first | rfl | (simp [errW_none, errW_some] <;> rfl) | (simp [*, errW_none, errW_some] <;> rfl), by repeat (first | (with_reducible first | exact HB.out | apply below_alloc | apply pw_below_drewN | apply below_drew1 | refine below_set ?_ GE266.out) | exact HB.out)⟩
 ·rw [if_neg c3] at H
  have c3b0 : (t268 == 0) = false := beq_eq_false_iff_ne.mpr c3
  have c3b1 : (t268 != 0) = true := bne_iff_ne.mpr c3
  obtain rfl := Option.some.inj H
  go_enter Tryz.func33, Tryz.ntmps33
  go_wp2_with (first | ((with_reducible refine gate_dst (N := 1) rfl ?_); refine box_event ?hg (N := 1) ?hd (cs := #[.slice A0_0 l0_0.length c0_0, .int .i64 a0_1, .slice A0_2 l0_2.length c0_2]) (t := 32) ?hr ?_; (case hd => rfl); (case hg => rfl); (case hr => first | (go_simp; done) | (go_simp; rfl)); intro gb266 hg w13 hbox hb; have n0_ := Aside0.mk (below_step (by with_reducible repeat first | exact HB.out | apply below_alloc | apply pw_below_drewN | apply below_drew1) hb); have n1_ := Aside0.mk (hbox); have n2_ := Aside0.mk ((by rw [hg]; exact (below_size (by with_reducible repeat first | exact HB.out | apply below_alloc | apply pw_below_drewN | apply below_drew1)) : w.heap.size ≤ gb266)); have n3_ := Aside0.mk ((by rw [hg]; exact (below_size (by with_reducible repeat first | exact HB.out | apply below_alloc | apply pw_below_drewN | apply below_drew1)) : w.heap.size ≤ gb266)); clear HB; have HB := n0_; have BK266 := n1_; have GW266 := n2_; have GE266 := n3_; clear n0_ n1_ n2_ n3_; clear hb hbox hg; have hcz14_0 : w13.cell? ⟨gb266, 0, none⟩ = some (.slice A0_0 l0_0.length c0_0) := (blk_cell BK266.out 0).trans rfl; have hcz14_1 : w13.cell? ⟨gb266, 1, none⟩ = some (.int .i64 a0_1) := (blk_cell BK266.out 1).trans rfl; have hcz14_2 : w13.cell? ⟨gb266, 2, none⟩ = some (.slice A0_2 l0_2.length c0_2) := (blk_cell BK266.out 2).trans rfl; have hfz14_0 := blk_frozen BK266.out 0; have hfz14_1 := blk_frozen BK266.out 1; have hfz14_2 := blk_frozen BK266.out 2) | ((with_reducible refine gate_callee (f := 22) rfl ?_); refine goesL_ (some 10) rfl rfl Tryz.func22 (by kernel_rfl) rfl #[.slice A0_0 l0_0.length c0_0, .slice A0_2 l0_2.length c0_2] rfl (by (try simp only [List.map_toArray, List.map_cons, List.map_nil]); first | done | rfl | (simp only [List.length_drop, List.length_take]; rfl)) ?_; (with_reducible refine (monzo_Sign.calls k _ _ l0_0 _ _ l0_2 t267 t268 _ ?side1 ?side2 ?side3 ?side4 ?side5 A2.out).mono ?_); (case side1 => exact Glob.below HG.out (by repeat (first | (with_reducible first | exact HB.out | apply below_alloc | apply pw_below_drewN | apply below_drew1 | refine below_set ?_ GE266.out) | exact HB.out))); (case side2 => repeat (first | exact (Kd.C_below HR0_0.out HB.out) | (with_reducible refine Kd.C_alloc ?_ _) | (with_reducible refine Kd.C_drewN ?_ _) | (with_reducible refine Kd.C_drew ?_))); (case side3 => exact HC0_0.out); (case side4 => repeat (first | exact (Kd.C_below HR0_2.out HB.out) | (with_reducible refine Kd.C_alloc ?_ _) | (with_reducible refine Kd.C_drewN ?_ _) | (with_reducible refine Kd.C_drew ?_))); (case side5 => exact HC0_2.out); rintro e w15 ⟨rfl, hb⟩; refine ⟨_, rfl, ?_⟩; have n0_ := Aside0.mk (blk_below (g := gb266) (o := .cells #[.slice A0_0 l0_0.length c0_0, .int .i64 a0_1, .slice A0_2 l0_2.length c0_2] 32 (0, 0)) (by (with_reducible repeat (first | refine blk_drewN ?_ _ | refine blk_drew ?_ | refine blk_alloc ?_ _)); exact BK266.out) hb); have n1_ := Aside0.mk (below_step (by repeat (first | (with_reducible first | exact HB.out | apply below_alloc | apply pw_below_drewN | apply below_drew1 | refine below_set ?_ GE266.out) | exact HB.out)) hb); clear BK266; clear HB; have BK266 := n0_; have HB := n1_; clear n0_ n1_; (try clear hb); (try clear hb2); (try clear hk); (try clear hi)))
  go_ret
  exact ⟨by first | rfl | (simp [errW_none, errW_some] <;> rfl) | (simp [*, errW_none, errW_some] <;> rfl), by repeat (first | (with_reducible first | exact HB.out | apply below_alloc | apply pw_below_drewN | apply below_drew1 | refine below_set ?_ GE266.out) | exact HB.out)⟩
def comma_apart.l0 : Nat → Int → Int → Int → List Int → Int → List Int → Option (Bool)
 | 0, _, _, _, _, _, _ => none
 | k + 1, x8, x9, x301000, x301001, x302000, x302001 => if x9 < x8 then (if 0 ≤ x9 then (if x9 < (x301001.length : Int) then (if (rd x301001 x9) > 0 then (if x9 < (x302001.length : Int) then (if (rd x302001 x9) > 0 then (some false) else (comma_apart.l0 k x8 (wrap64 (x9 + 1)) x301000 x301001 x302000 x302001)) else (none)) else (comma_apart.l0 k x8 (wrap64 (x9 + 1)) x301000 x301001 x302000 x302001)) else (none)) else (none)) else (some true)
def comma_apart.f (k : Nat) (a0_0 : Int) (l0_1 : List Int) (a1_0 : Int) (l1_1 : List Int) : Option (Bool) := comma_apart.l0 k (l0_1.length : Int) 0 a0_0 l0_1 a1_0 l1_1
theorem comma_apart.mono_l : ∀ k, (∀ y0 y1 y2 y3 y4 y5, LeO (comma_apart.l0 k y0 y1 y2 y3 y4 y5) (comma_apart.l0 (k + 1) y0 y1 y2 y3 y4 y5))
 | 0 => fun _ _ _ _ _ _ r h => by simp [comma_apart.l0] at h
 | k + 1 => by
  have ih0 := comma_apart.mono_l k
  ·intro y0 y1 y2 y3 y4 y5
   unfold comma_apart.l0
   repeat' first
   | (with_reducible exact ih0 _ _ _ _ _ _)
   | (with_reducible exact LeO.refl _)
   | (with_reducible exact LeO.none _)
   | (with_reducible refine LeO.ite ?_ ?_)
   | (with_reducible refine LeO.bind ?_ (fun _ => ?_))
   | refine LeO.ite ?_ ?_
   | refine LeO.bind ?_ (fun _ => ?_)
theorem comma_apart.mono : ∀ a0 a1 a2 a3 k, LeO (comma_apart.f k a0 a1 a2 a3) (comma_apart.f (k + 1) a0 a1 a2 a3) := by
 intro a0 a1 a2 a3 k
 have ih0 := comma_apart.mono_l k
 unfold comma_apart.f
 repeat' first
   | (with_reducible exact ih0 _ _ _ _ _ _)
   | (with_reducible exact LeO.refl _)
   | (with_reducible exact LeO.none _)
   | (with_reducible refine LeO.ite ?_ ?_)
   | (with_reducible refine LeO.bind ?_ (fun _ => ?_))
   | refine LeO.ite ?_ ?_
   | refine LeO.bind ?_ (fun _ => ?_)
theorem comma_apart.calls (k : Nat) (a0_0 : Int) (A0_1 : Option Addr) (c0_1 : Nat) (l0_1 : List Int) (a1_0 : Int) (A1_1 : Option Addr) (c1_1 : Nat) (l1_1 : List Int) (r : Bool) (w : World) (hr0_1 : Kd.C (Kd.int .i64) w A0_1 l0_1.length l0_1) (hc0_1 : l0_1.length ≤ c0_1) (hr1_1 : Kd.C (Kd.int .i64) w A1_1 l1_1.length l1_1) (hc1_1 : l1_1.length ≤ c1_1) (h : comma_apart.f k a0_0 l0_1 a1_0 l1_1 = some r) :
  Calls Tryz.prog 42 #[.agg #[.int .i64 a0_0, .slice A0_1 l0_1.length c0_1], .agg #[.int .i64 a1_0, .slice A1_1 l1_1.length c1_1]] w fun e w' => e = .returned (.bool r) ∧ Below w.heap.size w w' := by
 have hu83 := Tryz.underlying83
 have HR0_1 := Aside0.mk hr0_1
 have HC0_1 := Aside0.mk hc0_1
 clear hr0_1 hc0_1
 have HR1_1 := Aside0.mk hr1_1
 have HC1_1 := Aside0.mk hc1_1
 clear hr1_1 hc1_1
 have HB := Aside0.mk (Below.refl w.heap.size w)
 have H : (comma_apart.l0 k (l0_1.length : Int) 0 a0_0 l0_1 a1_0 l1_1) = some r := h
 clear h
 have H' := Aside0.mk H
 clear H
 go_enter Tryz.func42, Tryz.ntmps42
 go_wp2_with (first | ((with_reducible refine gate_dst (N := 2) rfl ?_); refine box_event ?hg (N := 2) ?hd (cs := #[.int .i64 a0_0, .slice A0_1 l0_1.length c0_1]) (t := 83) ?hr ?_; (case hd => rfl); (case hg => rfl); (case hr => first | (go_simp; done) | (go_simp; rfl)); intro gb300 hg w3 hbox hb; have n0_ := Aside0.mk (below_step (by with_reducible repeat first | exact HB.out | apply below_alloc | apply pw_below_drewN | apply below_drew1) hb); have n1_ := Aside0.mk (hbox); have n2_ := Aside0.mk ((by rw [hg]; exact (below_size (by with_reducible repeat first | exact HB.out | apply below_alloc | apply pw_below_drewN | apply below_drew1)) : w.heap.size ≤ gb300)); have n3_ := Aside0.mk ((by rw [hg]; exact (below_size (by with_reducible repeat first | exact HB.out | apply below_alloc | apply pw_below_drewN | apply below_drew1)) : w.heap.size ≤ gb300)); clear HB; have HB := n0_; have BK300 := n1_; have GW300 := n2_; have GE300 := n3_; clear n0_ n1_ n2_ n3_; clear hb hbox hg) | ((with_reducible refine gate_dst (N := 3) rfl ?_); refine box_event ?hg (N := 3) ?hd (cs := #[.int .i64 a1_0, .slice A1_1 l1_1.length c1_1]) (t := 83) ?hr ?_; (case hd => rfl); (case hg => rfl); (case hr => first | (go_simp; done) | (go_simp; rfl)); intro gb301 hg w4 hbox hb; have n0_ := Aside0.mk (blk_below (g := gb300) (o := .cells #[.int .i64 a0_0, .slice A0_1 l0_1.length c0_1] 83 (0, 0)) (by (with_reducible repeat (first | refine blk_drewN ?_ _ | refine blk_drew ?_ | refine blk_alloc ?_ _)); exact BK300.out) hb); have n1_ := Aside0.mk (below_step (by repeat (first | (with_reducible first | exact HB.out | apply below_alloc | apply pw_below_drewN | apply below_drew1 | refine below_set ?_ GE300.out) | exact HB.out)) hb); have n2_ := Aside0.mk (hbox); have n3_ := Aside0.mk ((by rw [hg]; exact (below_size (by repeat (first | (with_reducible first | exact HB.out | apply below_alloc | apply pw_below_drewN | apply below_drew1 | refine below_set ?_ GE300.out) | exact HB.out))) : w.heap.size ≤ gb301)); have n4_ := Aside0.mk ((by rw [hg]; exact (below_size (by repeat (first | (with_reducible first | exact HB.out | apply below_alloc | apply pw_below_drewN | apply below_drew1 | refine below_set ?_ GE300.out) | exact HB.out))) : w.heap.size ≤ gb301)); have n5_ := Aside0.mk ((by rw [hg]; exact Nat.ne_of_lt (blk_lt (g := gb300) (o := .cells #[.int .i64 a0_0, .slice A0_1 l0_1.length c0_1] 83 (0, 0)) (by (with_reducible repeat (first | refine blk_drewN ?_ _ | refine blk_drew ?_ | refine blk_alloc ?_ _)); exact BK300.out)) : gb300 ≠ gb301)); have n6_ := Aside0.mk ((by rw [hg]; exact Nat.ne_of_gt (blk_lt (g := gb300) (o := .cells #[.int .i64 a0_0, .slice A0_1 l0_1.length c0_1] 83 (0, 0)) (by (with_reducible repeat (first | refine blk_drewN ?_ _ | refine blk_drew ?_ | refine blk_alloc ?_ _)); exact BK300.out)) : gb301 ≠ gb300)); clear BK300; clear HB; have BK300 := n0_; have HB := n1_; have BK301 := n2_; have GW301 := n3_; have GE301 := n4_; have NB300_301 := n5_; have NB301_300 := n6_; clear n0_ n1_ n2_ n3_ n4_ n5_ n6_; clear hb hbox hg; have hnb5 := NB300_301.out; have hnc5 := NB301_300.out; have hcz6_0 : w4.cell? ⟨gb300, 0, none⟩ = some (.int .i64 a0_0) := (blk_cell BK300.out 0).trans rfl; have hcz6_1 : w4.cell? ⟨gb300, 1, none⟩ = some (.slice A0_1 l0_1.length c0_1) := (blk_cell BK300.out 1).trans rfl; have hfz6_0 := blk_frozen BK300.out 0; have hfz6_1 := blk_frozen BK300.out 1))
 go_loopg [9] k (fun kq v9 w' => ∃ (x9_1 : Int), v9 = .int .i64 x9_1 ∧ Aside0 (comma_apart.l0 kq (l0_1.length : Int) x9_1 a0_0 l0_1 a1_0 l1_1 = some r) ∧ Aside0 (kq ≤ k) ∧ Aside0 (w'.heap[gb300]? = some (.cells #[.int .i64 a0_0, (.slice A0_1 l0_1.length c0_1)] 83 (0, 0))) ∧ Aside0 (w'.heap[gb301]? = some (.cells #[.int .i64 a1_0, (.slice A1_1 l1_1.length c1_1)] 83 (0, 0))) ∧ Aside0 (Below w.heap.size w w'))
 case atStart => exact ⟨(0), (by first | rfl | (simp; done) | (simp [*]; done)), H', ⟨Nat.le_refl _⟩, ⟨by (with_reducible repeat (first | refine blk_drewN ?_ _ | refine blk_drew ?_ | refine blk_alloc ?_ _)); exact BK300.out⟩, ⟨by (with_reducible repeat (first | refine blk_drewN ?_ _ | refine blk_drew ?_ | refine blk_alloc ?_ _)); exact BK301.out⟩, ⟨by repeat (first | (with_reducible first | exact HB.out | apply below_alloc | apply pw_below_drewN | apply below_drew1 | refine below_set ?_ GE300.out | refine below_set ?_ GE301.out) | exact HB.out)⟩⟩
 case round =>
  clear H'
  try clear c1
  try clear p2
  try clear c4
  try clear c5
  try clear hcz6_0
  try clear hcz6_1
  try clear hfz6_0
  try clear hfz6_1
  obtain ⟨x9_1, rfl, HA, HK1, BK300, BK301, HB⟩ := hrel
  cases gk with
  | zero => exact absurd HA.out (by simp [comma_apart.l0])
  | succ k1 =>
   have H := HA.out
   clear HA
   simp only [comma_apart.l0] at H
   by_cases c7 : x9_1 < (l0_1.length : Int)
   ·rw [if_pos c7] at H
    have c7b0 : decide (x9_1 < (l0_1.length : Int)) = true := decide_eq_true c7
    clear c7
    by_cases c8 : 0 ≤ x9_1
    ·rw [if_pos c8] at H
     have c8b0 : decide (0 ≤ x9_1) = true := decide_eq_true c8
     clear c8
     by_cases c9 : x9_1 < (l0_1.length : Int)
     ·rw [if_pos c9] at H
      have c9b0 : decide (x9_1 < (l0_1.length : Int)) = true := decide_eq_true c9
      clear c9
      by_cases c10 : (rd l0_1 x9_1) > 0
      ·rw [if_pos c10] at H
       have c10b0 : decide (0 < (rd l0_1 x9_1)) = true := decide_eq_true c10
       clear c10
       by_cases c11 : x9_1 < (l1_1.length : Int)
       ·rw [if_pos c11] at H
        have c11b0 : decide (x9_1 < (l1_1.length : Int)) = true := decide_eq_true c11
        clear c11
        by_cases c12 : (rd l1_1 x9_1) > 0
        ·rw [if_pos c12] at H
         have c12b0 : decide (0 < (rd l1_1 x9_1)) = true := decide_eq_true c12
         clear c12
         obtain rfl := Option.some.inj H
         have hnb13 := NB300_301.out
         have hnc13 := NB301_300.out
         have hcz14_0 : wr.cell? ⟨gb300, 0, none⟩ = some (.int .i64 a0_0) := (blk_cell BK300.out 0).trans rfl
         have hcz14_1 : wr.cell? ⟨gb300, 1, none⟩ = some (.slice A0_1 l0_1.length c0_1) := (blk_cell BK300.out 1).trans rfl
         have hfz14_0 := blk_frozen BK300.out 0
         have hfz14_1 := blk_frozen BK300.out 1
         have p302 : 0 ≤ (x9_1 : Int) := of_decide_eq_true (by with_reducible assumption)
         have q302 : x9_1 < (l0_1.length : Int) := of_decide_eq_true (by with_reducible assumption)
         obtain ⟨ad302, e302, hx302_0⟩ := Kd.at_int HR0_1.out x9_1 p302 q302
         cases e302
         replace hx302_0 := (HB.out.cell (World.block_lt_of_cell? w _ hx302_0)).trans hx302_0
         replace p302 := eq_true p302
         replace q302 := eq_true q302
         have hcz15_0 : wr.cell? ⟨gb301, 0, none⟩ = some (.int .i64 a1_0) := (blk_cell BK301.out 0).trans rfl
         have hcz15_1 : wr.cell? ⟨gb301, 1, none⟩ = some (.slice A1_1 l1_1.length c1_1) := (blk_cell BK301.out 1).trans rfl
         have hfz15_0 := blk_frozen BK301.out 0
         have hfz15_1 := blk_frozen BK301.out 1
         have p303 : 0 ≤ (x9_1 : Int) := of_decide_eq_true (by with_reducible assumption)
         have q303 : x9_1 < (l1_1.length : Int) := of_decide_eq_true (by with_reducible assumption)
         obtain ⟨ad303, e303, hx303_0⟩ := Kd.at_int HR1_1.out x9_1 p303 q303
         cases e303
         replace hx303_0 := (HB.out.cell (World.block_lt_of_cell? w _ hx303_0)).trans hx303_0
         replace p303 := eq_true p303
         replace q303 := eq_true q303
         go_wp2
         go_ret
         exact ⟨by first | rfl | (simp [errW_none, errW_some] <;> rfl) | (simp [*, errW_none, errW_some] <;> rfl), by repeat (first | (with_reducible first | exact HB.out | apply below_alloc | apply pw_below_drewN | apply below_drew1 | refine below_set ?_ GE300.out | refine below_set ?_ GE301.out) | exact HB.out)⟩
        ·rw [if_neg c12] at H
         have c12b0 : decide (0 < (rd l1_1 x9_1)) = false := decide_eq_false c12
         clear c12
         have H' := Aside0.mk H
         clear H
         have hnb16 := NB300_301.out
         have hnc16 := NB301_300.out
         have hcz17_0 : wr.cell? ⟨gb300, 0, none⟩ = some (.int .i64 a0_0) := (blk_cell BK300.out 0).trans rfl
         have hcz17_1 : wr.cell? ⟨gb300, 1, none⟩ = some (.slice A0_1 l0_1.length c0_1) := (blk_cell BK300.out 1).trans rfl
         have hfz17_0 := blk_frozen BK300.out 0
         have hfz17_1 := blk_frozen BK300.out 1
         have p302 : 0 ≤ (x9_1 : Int) := of_decide_eq_true (by with_reducible assumption)
         have q302 : x9_1 < (l0_1.length : Int) := of_decide_eq_true (by with_reducible assumption)
         obtain ⟨ad302, e302, hx302_0⟩ := Kd.at_int HR0_1.out x9_1 p302 q302
         cases e302
         replace hx302_0 := (HB.out.cell (World.block_lt_of_cell? w _ hx302_0)).trans hx302_0
         replace p302 := eq_true p302
         replace q302 := eq_true q302
         have hcz18_0 : wr.cell? ⟨gb301, 0, none⟩ = some (.int .i64 a1_0) := (blk_cell BK301.out 0).trans rfl
         have hcz18_1 : wr.cell? ⟨gb301, 1, none⟩ = some (.slice A1_1 l1_1.length c1_1) := (blk_cell BK301.out 1).trans rfl
         have hfz18_0 := blk_frozen BK301.out 0
         have hfz18_1 := blk_frozen BK301.out 1
         have p303 : 0 ≤ (x9_1 : Int) := of_decide_eq_true (by with_reducible assumption)
         have q303 : x9_1 < (l1_1.length : Int) := of_decide_eq_true (by with_reducible assumption)
         obtain ⟨ad303, e303, hx303_0⟩ := Kd.at_int HR1_1.out x9_1 p303 q303
         cases e303
         replace hx303_0 := (HB.out.cell (World.block_lt_of_cell? w _ hx303_0)).trans hx303_0
         replace p303 := eq_true p303
         replace q303 := eq_true q303
         go_wp2
         go_roundg k1
         case measure => have := HK1.out; omega
         case rel => exact ⟨(wrap64 (x9_1 + 1)), (by first | rfl | (simp; done) | (simp [*]; done)), H', ⟨by have := HK1.out; omega⟩, ⟨by (with_reducible repeat (first | refine blk_drewN ?_ _ | refine blk_drew ?_ | refine blk_alloc ?_ _)); exact BK300.out⟩, ⟨by (with_reducible repeat (first | refine blk_drewN ?_ _ | refine blk_drew ?_ | refine blk_alloc ?_ _)); exact BK301.out⟩, ⟨by repeat (first | (with_reducible first | exact HB.out | apply below_alloc | apply pw_below_drewN | apply below_drew1 | refine below_set ?_ GE300.out | refine below_set ?_ GE301.out) | exact HB.out)⟩⟩
       ·rw [if_neg c11] at H
        exact absurd H (by simp)
      ·rw [if_neg c10] at H
       have c10b0 : decide (0 < (rd l0_1 x9_1)) = false := decide_eq_false c10
       clear c10
       have H' := Aside0.mk H
       clear H
       have hnb19 := NB300_301.out
       have hnc19 := NB301_300.out
       have hcz20_0 : wr.cell? ⟨gb300, 0, none⟩ = some (.int .i64 a0_0) := (blk_cell BK300.out 0).trans rfl
       have hcz20_1 : wr.cell? ⟨gb300, 1, none⟩ = some (.slice A0_1 l0_1.length c0_1) := (blk_cell BK300.out 1).trans rfl
       have hfz20_0 := blk_frozen BK300.out 0
       have hfz20_1 := blk_frozen BK300.out 1
       have p302 : 0 ≤ (x9_1 : Int) := of_decide_eq_true (by with_reducible assumption)
       have q302 : x9_1 < (l0_1.length : Int) := of_decide_eq_true (by with_reducible assumption)
       obtain ⟨ad302, e302, hx302_0⟩ := Kd.at_int HR0_1.out x9_1 p302 q302
       cases e302
       replace hx302_0 := (HB.out.cell (World.block_lt_of_cell? w _ hx302_0)).trans hx302_0
       replace p302 := eq_true p302
       replace q302 := eq_true q302
       go_wp2
       go_roundg k1
       case measure => have := HK1.out; omega
       case rel => exact ⟨(wrap64 (x9_1 + 1)), (by first | rfl | (simp; done) | (simp [*]; done)), H', ⟨by have := HK1.out; omega⟩, ⟨by (with_reducible repeat (first | refine blk_drewN ?_ _ | refine blk_drew ?_ | refine blk_alloc ?_ _)); exact BK300.out⟩, ⟨by (with_reducible repeat (first | refine blk_drewN ?_ _ | refine blk_drew ?_ | refine blk_alloc ?_ _)); exact BK301.out⟩, ⟨by repeat (first | (with_reducible first | exact HB.out | apply below_alloc | apply pw_below_drewN | apply below_drew1 | refine below_set ?_ GE300.out | refine below_set ?_ GE301.out) | exact HB.out)⟩⟩
     ·rw [if_neg c9] at H
      exact absurd H (by simp)
    ·rw [if_neg c8] at H
     exact absurd H (by simp)
   ·rw [if_neg c7] at H
    have c7b0 : decide (x9_1 < (l0_1.length : Int)) = false := decide_eq_false c7
    clear c7
    obtain rfl := Option.some.inj H
    go_wp2
    go_ret
    exact ⟨by first | rfl | (simp [errW_none, errW_some] <;> rfl) | (simp [*, errW_none, errW_some] <;> rfl), by repeat (first | (with_reducible first | exact HB.out | apply below_alloc | apply pw_below_drewN | apply below_drew1 | refine below_set ?_ GE300.out | refine below_set ?_ GE301.out) | exact HB.out)⟩
mutual
def comma_List.l0 : Nat → ByteArray → ByteArray → List (S83) → List (List Int) → List (S83) → Int → Int → Option ((List (List Int)) × Int)
 | 0, _, _, _, _, _, _, _ => none
 | k + 1, x5, x6, x7, x8, x34, x35, x36 => if x36 < x35 then (if 0 ≤ x36 then (if x36 < (x34.length : Int) then ((g_whole_Of.f ((rd_T83 x34 x36).f0)).bind fun t313 => ((whole_Mul.f k t313 x6).bind fun t314 => (comma_List.l1 k x5 x6 x7 x8 t314 (x8.length : Int) (wrap64 (x36 - 1)) x34 x35 x36 ((rd_T83 x34 x36).f0) ((rd_T83 x34 x36).f1)))) else (none)) else (none)) else (some (x8, 0))
def comma_List.l1 : Nat → ByteArray → ByteArray → List (S83) → List (List Int) → ByteArray → Int → Int → List (S83) → Int → Int → Int → List Int → Option ((List (List Int)) × Int)
 | 0, _, _, _, _, _, _, _, _, _, _, _, _ => none
 | k + 1, x5, x6, x7, x8, x11, x12, x13, x34, x35, x36, x313000, x313001 => if x13 ≥ 0 then (if 0 ≤ x13 then (if x13 < (x7.length : Int) then ((g_whole_Of.f ((rd_T83 x7 x13).f0)).bind fun t321 => ((whole_Mul.f k t321 x5).bind fun t322 => ((whole_Compare.f x11 t322).bind fun t323 => (if t323 > 0 then (if 0 ≤ x12 then (if x12 ≤ (x8.length : Int) then ((g_rev_Row.f x8 x12).bind fun z_ => (comma_List.l0 k x5 x6 x7 z_ x34 x35 (wrap64 (x36 + 1)))) else (none)) else (none)) else ((comma_apart.f k x313000 x313001 ((rd_T83 x7 x13).f0) ((rd_T83 x7 x13).f1)).bind fun t330 => (if t330 = true then (if (x8.length : Int) = 10000 then (some (([] : List (List Int)), 4)) else ((g_row_Sub.f x313001 ((rd_T83 x7 x13).f1)).bind fun bt332 => (if x8.length < 5864062014805 then (comma_List.l1 k x5 x6 x7 (x8 ++ [bt332.1]) x11 x12 (wrap64 (x13 - 1)) x34 x35 x36 x313000 x313001) else (none)))) else (comma_List.l1 k x5 x6 x7 x8 x11 x12 (wrap64 (x13 - 1)) x34 x35 x36 x313000 x313001))))))) else (none)) else (none)) else (if 0 ≤ x12 then (if x12 ≤ (x8.length : Int) then ((g_rev_Row.f x8 x12).bind fun z_ => (comma_List.l0 k x5 x6 x7 z_ x34 x35 (wrap64 (x36 + 1)))) else (none)) else (none))
end
def comma_List.f (k : Nat) (l0_0 : List Int) (a0_1 : Int) (l0_2 : List Int) : Option ((List (List Int)) × Int) := (comma_Check.f k l0_0 a0_1 l0_2).bind fun t305 => (if t305 = 0 then ((comma_sides.f k l0_0 l0_2).bind fun bt306 => ((comma_numbers.f k l0_0 a0_1).bind fun t308 => (comma_List.l0 k bt306.1 bt306.2 t308 ([] : List (List Int)) t308 (t308.length : Int) 0))) else (some (([] : List (List Int)), t305)))
theorem comma_List.mono_l : ∀ k, (∀ y0 y1 y2 y3 y4 y5 y6, LeO (comma_List.l0 k y0 y1 y2 y3 y4 y5 y6) (comma_List.l0 (k + 1) y0 y1 y2 y3 y4 y5 y6)) ∧ (∀ y0 y1 y2 y3 y4 y5 y6 y7 y8 y9 y10 y11, LeO (comma_List.l1 k y0 y1 y2 y3 y4 y5 y6 y7 y8 y9 y10 y11) (comma_List.l1 (k + 1) y0 y1 y2 y3 y4 y5 y6 y7 y8 y9 y10 y11))
 | 0 => ⟨fun _ _ _ _ _ _ _ r h => by simp [comma_List.l0] at h, fun _ _ _ _ _ _ _ _ _ _ _ _ r h => by simp [comma_List.l1] at h⟩
 | k + 1 => by
  obtain ⟨ih0, ih1⟩ := comma_List.mono_l k
  refine ⟨?_, ?_⟩
  ·intro y0 y1 y2 y3 y4 y5 y6
   unfold comma_List.l0
   repeat' first
   | (with_reducible exact ih0 _ _ _ _ _ _ _)
   | (with_reducible exact ih1 _ _ _ _ _ _ _ _ _ _ _ _)
   | with_reducible apply comma_Check.mono
   | with_reducible apply comma_apart.mono
   | with_reducible apply comma_numbers.mono
   | with_reducible apply comma_sides.mono
   | with_reducible apply whole_Mul.mono
   | (with_reducible exact LeO.refl _)
   | (with_reducible exact LeO.none _)
   | (with_reducible refine LeO.ite ?_ ?_)
   | (with_reducible refine LeO.bind ?_ (fun _ => ?_))
   | refine LeO.ite ?_ ?_
   | refine LeO.bind ?_ (fun _ => ?_)
  ·intro y0 y1 y2 y3 y4 y5 y6 y7 y8 y9 y10 y11
   unfold comma_List.l1
   repeat' first
   | (with_reducible exact ih0 _ _ _ _ _ _ _)
   | (with_reducible exact ih1 _ _ _ _ _ _ _ _ _ _ _ _)
   | with_reducible apply comma_Check.mono
   | with_reducible apply comma_apart.mono
   | with_reducible apply comma_numbers.mono
   | with_reducible apply comma_sides.mono
   | with_reducible apply whole_Mul.mono
   | (with_reducible exact LeO.refl _)
   | (with_reducible exact LeO.none _)
   | (with_reducible refine LeO.ite ?_ ?_)
   | (with_reducible refine LeO.bind ?_ (fun _ => ?_))
   | refine LeO.ite ?_ ?_
   | refine LeO.bind ?_ (fun _ => ?_)
theorem comma_List.mono : ∀ a0 a1 a2 k, LeO (comma_List.f k a0 a1 a2) (comma_List.f (k + 1) a0 a1 a2) := by
 intro a0 a1 a2 k
 obtain ⟨ih0, ih1⟩ := comma_List.mono_l k
 unfold comma_List.f
 repeat' first
   | (with_reducible exact ih0 _ _ _ _ _ _ _)
   | (with_reducible exact ih1 _ _ _ _ _ _ _ _ _ _ _ _)
   | with_reducible apply comma_Check.mono
   | with_reducible apply comma_apart.mono
   | with_reducible apply comma_numbers.mono
   | with_reducible apply comma_sides.mono
   | with_reducible apply whole_Mul.mono
   | (with_reducible exact LeO.refl _)
   | (with_reducible exact LeO.none _)
   | (with_reducible refine LeO.ite ?_ ?_)
   | (with_reducible refine LeO.bind ?_ (fun _ => ?_))
   | refine LeO.ite ?_ ?_
   | refine LeO.bind ?_ (fun _ => ?_)
theorem w64_id {x : Int} (h : -9223372036854775808 ≤ x ∧ x ≤ 9223372036854775807) : wrap64 x = x := by unfold wrap64; omega
theorem c3_cells {W : World} {g : Nat} {a b c : Value} {e : Nat} (h : W.heap[g]? = some (.cells #[a, b, c] e (0, 0))) : W.cell? ⟨g, 0, none⟩ = some a ∧ W.cell? ⟨g, 1, none⟩ = some b ∧ W.cell? ⟨g, 2, none⟩ = some c := by simp [World.cell?, h]
theorem c2_cells {W : World} {g : Nat} {a b : Value} {e : Nat} (h : W.heap[g]? = some (.cells #[a, b] e (0, 0))) : W.cell? ⟨g, 0, none⟩ = some a ∧ W.cell? ⟨g, 1, none⟩ = some b := by simp [World.cell?, h]
theorem comma_List.calls (k : Nat) (A0_0 : Option Addr) (c0_0 : Nat) (l0_0 : List Int) (a0_1 : Int) (A0_2 : Option Addr) (c0_2 : Nat) (l0_2 : List Int) (r1 : List (List Int)) (r2 : Int) (w : World) (hG : Glob w) (hr0_0 : Kd.C (Kd.int .i64) w A0_0 l0_0.length l0_0) (hc0_0 : l0_0.length ≤ c0_0) (hr0_2 : Kd.C (Kd.int .i64) w A0_2 l0_2.length l0_2) (hc0_2 : l0_2.length ≤ c0_2) (h : comma_List.f k l0_0 a0_1 l0_2 = some (r1, r2)) :
  Calls Tryz.prog 14 #[.agg #[.slice A0_0 l0_0.length c0_0, .int .i64 a0_1, .slice A0_2 l0_2.length c0_2]] w fun e w' => ∃ v0_ : Value, e = .returned (.tuple #[v0_, .int .i64 r2]) ∧ Kd.N (Kd.slice 3 (Kd.int .i64)) 30 w' w.heap.size (fun k_ => (w.heap.size ≤ k_)) v0_ r1 ∧ Below w.heap.size w w' := by
 have HG := Aside0.mk hG
 have HR0 := Aside0.mk hr0_0
 have HC0 := Aside0.mk hc0_0
 have HR2 := Aside0.mk hr0_2
 have HC2 := Aside0.mk hc0_2
 clear hG hr0_0 hc0_0 hr0_2 hc0_2
 unfold comma_List.f at h
 obtain ⟨e0, hE, h⟩ := Option.bind_eq_some_iff.1 h
 have HE := Aside0.mk hE
 clear hE
 by_cases he : e0 = 0
 ·rw [if_pos he] at h
  subst he
  obtain ⟨⟨num, den⟩, hSd, h⟩ := Option.bind_eq_some_iff.1 h
  obtain ⟨es, hNu, h⟩ := Option.bind_eq_some_iff.1 h
  have HSd := Aside0.mk hSd
  have HNu := Aside0.mk hNu
  have HL0 := Aside0.mk h
  clear hSd hNu h
  go_enter Tryz.func14, Tryz.ntmps14
  go_wp2_with (first
   | (go_at_call 33; (with_reducible refine (comma_Check.calls k A0_0 c0_0 l0_0 a0_1 A0_2 c0_2 l0_2 0 _ ?sG (Kd.C_alloc HR0.out _) HC0.out (Kd.C_alloc HR2.out _) HC2.out HE.out).mono ?_); (case sG => exact Glob.below HG.out (below_alloc (Below.refl _ _) _)); rintro e w1 ⟨rfl, hb⟩; have bq : w1.heap[w.heap.size]? = some (.cells #[.slice A0_0 l0_0.length c0_0, .int .i64 a0_1, .slice A0_2 l0_2.length c0_2] 32 (0, 0)) := (hb.block w.heap.size (by simp only [size_alloc]; omega)).trans (by simp only [heap_alloc]; rw [if_pos trivial]); obtain ⟨hc0, hc1, hc2⟩ := c3_cells bq; have BQ := Aside0.mk bq; clear bq; have HB1 := Aside0.mk (show Below w.heap.size w w1 from below_step (below_alloc (Below.refl _ _) _) hb); clear hb)
   | (go_at_call 38; (with_reducible refine (comma_sides.calls k A0_0 c0_0 l0_0 A0_2 c0_2 l0_2 num den _ (Glob.below HG.out HB1.out) (Kd.C_below HR0.out HB1.out) HC0.out (Kd.C_below HR2.out HB1.out) HC2.out HSd.out).mono ?_); rintro e w2 ⟨rfl, hb⟩; have bq : w2.heap[w.heap.size]? = some (.cells #[.slice A0_0 l0_0.length c0_0, .int .i64 a0_1, .slice A0_2 l0_2.length c0_2] 32 (0, 0)) := (hb.block w.heap.size (Array.getElem?_eq_some_iff.1 BQ.out).1).trans BQ.out; clear hc0 hc1 hc2; obtain ⟨hc0, hc1, hc2⟩ := c3_cells bq; clear bq; have HB2 := Aside0.mk (below_step HB1.out hb); clear hb)
   | (go_at_call 39; (with_reducible refine (comma_numbers.calls k A0_0 c0_0 l0_0 a0_1 es _ (Kd.C_below HR0.out HB2.out) HC0.out HNu.out).mono ?_); rintro e w3 ⟨v3, rfl, hN, hb⟩; have HN3 := Aside0.mk hN; have HB3 := Aside0.mk (below_step HB2.out hb); clear hN hb hc0 hc1 hc2; obtain ⟨A3, c3, rfl⟩ := Kd.N_slice HN3.out; have HC3 := Aside0.mk (Kd.N_reads' HN3.out)))
  go_loopg [8, 36] k (fun gg s8 s36 wr => ∃ (kk i : Nat) (out : List (List Int)), s36 = .int .i64 i ∧ kk ≤ gg ∧ i ≤ es.length ∧ Aside0 (comma_List.l0 kk num den es out es (es.length : Int) (i : Int) = some (r1, r2)) ∧ Aside0 (Kd.N (Kd.slice 3 (Kd.int .i64)) 30 wr w3.heap.size (fun k_ => w3.heap.size ≤ k_) s8 out) ∧ Aside0 (Below w3.heap.size w3 wr))
  case atStart => exact ⟨k, 0, [], rfl, Nat.le_refl _, by omega, HL0, ⟨Kd.N_nil _ _ _ _ _⟩, ⟨Below.refl _ _⟩⟩
  case round =>
   clear HL0
   obtain ⟨kk, i, out, rfl, hkk, hi, HL0, HO, HBI⟩ := hrel
   obtain ⟨wo, hwo⟩ : ∃ wo, wo = wr := ⟨_, rfl⟩
   subst hwo
   obtain ⟨Ao, co, rfl⟩ := Kd.N_slice HO.out
   have hesn := HC3.out.2.2.2.1
   have h0 := HL0.out
   cases kk with
   | zero => simp [comma_List.l0] at h0
   | succ k1 =>
    rw [comma_List.l0] at h0
    by_cases hlt : i < es.length
    ·have hltd : decide ((i : Int) < (es.length : Int)) = true := decide_eq_true (by omega)
     rw [if_pos (by omega), if_pos (by omega), if_pos (by omega)] at h0
     obtain ⟨t1, hOf, h0⟩ := Option.bind_eq_some_iff.1 h0
     obtain ⟨up, hMu, h0⟩ := Option.bind_eq_some_iff.1 h0
     obtain ⟨ad, A1, c1, ea, hx0, hx1, hl1, hC1⟩ := at_T83 HC3.out.2.2 (i : Int) (by omega) (by omega)
     cases ea
     obtain ⟨f0, hf0⟩ : ∃ f0, f0 = (rd_T83 es (i : Int)).f0 := ⟨_, rfl⟩
     obtain ⟨f1, hf1⟩ : ∃ f1, f1 = (rd_T83 es (i : Int)).f1 := ⟨_, rfl⟩
     rw [← hf0] at hOf hx0 h0
     rw [← hf1] at hx1 hl1 hC1 h0
     have e1 : wrap64 ((i : Int) - 1) = (i : Int) - 1 := w64_id (by omega)
     rw [e1] at h0
     have hy0 := (HBI.out.cell (World.block_lt_of_cell? w3 _ hx0)).trans hx0
     have hy1 := (HBI.out.cell (World.block_lt_of_cell? w3 _ hx1)).trans hx1
     simp only [Int.toNat_natCast] at hy0 hy1
     have q0 : (i : Int) < (es.length : Int) := by omega
     have HOf := Aside0.mk hOf
     have HMu := Aside0.mk hMu
     have HL1 := Aside0.mk h0
     have HF1 := Aside0.mk (And.intro hl1 hC1)
     have HBo := Aside0.mk (below_step HB3.out HBI.out)
     have HEn := Aside0.mk hesn
     clear hf0 hf1 hOf hMu h0 hl1 hC1 hx0 hx1 HL0 hesn
     go_wp2_with (first
      | (go_at_call 41; (with_reducible refine (g_whole_Of.calls f0 t1 _ (Glob.below HG.out (below_alloc HBo.out _)) HOf.out).mono ?_); rintro e w4 ⟨rfl, hb⟩; have HB4 := Aside0.mk (below_step (below_alloc (Below.refl _ _) _) hb : Below wo.heap.size wo w4); have bq : w4.heap[wo.heap.size]? = some (.cells #[.int .i64 f0, .slice A1 f1.length c1] 83 (0, 0)) := (hb.block wo.heap.size (by simp only [size_alloc]; omega)).trans (by simp only [heap_alloc]; rw [if_pos trivial]); have BA := Aside0.mk bq; clear bq hb)
      | (go_at_call 40; (with_reducible refine (whole_Mul.calls k1 t1 den up _ (Glob.below HG.out (below_step HBo.out HB4.out)) HMu.out).mono ?_); rintro e w5 ⟨rfl, hb⟩; have BA5 := Aside0.mk ((hb.block wo.heap.size (Array.getElem?_eq_some_iff.1 BA.out).1).trans BA.out); have HB5 := Aside0.mk (below_step HB4.out hb); clear hb))
     clear hy0 hy1
     have HO5 := Aside0.mk (Kd.N_below HO.out HB5.out)
     have HBI5 := Aside0.mk (below_step HBI.out HB5.out)
     clear HO
     go_loopg [8, 13] k1 (fun gg s8 s13 wr => ∃ (kk : Nat) (out2 : List (List Int)) (j : Int), s13 = .int .i64 j ∧ -1 ≤ j ∧ j < es.length ∧ kk ≤ gg ∧ kk ≤ k1 ∧ out.length ≤ out2.length ∧ Aside0 (comma_List.l1 kk num den es out2 up (out.length : Int) j es (es.length : Int) (i : Int) f0 f1 = some (r1, r2)) ∧ Aside0 (Kd.N (Kd.slice 3 (Kd.int .i64)) 30 wr w3.heap.size (fun k_ => w3.heap.size ≤ k_) s8 out2) ∧ Aside0 (wr.heap[wo.heap.size]? = some (.cells #[.int .i64 f0, .slice A1 f1.length c1] 83 (0, 0))) ∧ Aside0 (Below w3.heap.size w3 wr))
     case atStart => exact ⟨k1, out, (i : Int) - 1, by rw [e1], by omega, by omega, Nat.le_refl _, Nat.le_refl _, Nat.le_refl _, HL1, HO5, BA5, HBI5⟩
     case round =>
      clear HL1 HO5 BA5 HBI5 HBI BA e1
      obtain ⟨kk, out2, j, rfl, hj1, hj2, hkk2, hkk3, hlo, HL1, HO, BAw, HBI⟩ := hrel
      obtain ⟨Ao, co, rfl⟩ := Kd.N_slice HO.out
      have HBr := Aside0.mk (below_step HB3.out HBI.out)
      have h1 := HL1.out
      cases kk with
      | zero => simp [comma_List.l1] at h1
      | succ k2 =>
       rw [comma_List.l1] at h1
       by_cases hj : j ≥ 0
       ·obtain ⟨jn, rfl⟩ := Int.eq_ofNat_of_zero_le hj
        have hjd : decide ((jn : Int) ≥ 0) = true := decide_eq_true hj
        rw [if_pos hj, if_pos hj, if_pos hj2] at h1
        obtain ⟨t2, hOf2, h1⟩ := Option.bind_eq_some_iff.1 h1
        obtain ⟨t3, hMu2, h1⟩ := Option.bind_eq_some_iff.1 h1
        obtain ⟨cp, hCp, h1⟩ := Option.bind_eq_some_iff.1 h1
        obtain ⟨ad2, B1, d1, eb, hx0, hx1, hm1, hD1⟩ := at_T83 HC3.out.2.2 (jn : Int) (by omega) (by omega)
        obtain rfl : ad = ad2 := by injection eb
        obtain ⟨e0, he0⟩ : ∃ e0, e0 = (rd_T83 es (jn : Int)).f0 := ⟨_, rfl⟩
        obtain ⟨e1, he1⟩ : ∃ e1, e1 = (rd_T83 es (jn : Int)).f1 := ⟨_, rfl⟩
        rw [← he0] at hOf2 hx0 h1
        rw [← he1] at hx1 hm1 hD1 h1
        have hwj : wrap64 ((jn : Int) - 1) = (jn : Int) - 1 := w64_id (by have := HEn.out; omega)
        rw [hwj] at h1
        have hy0 := (HBI.out.cell (World.block_lt_of_cell? w3 _ hx0)).trans hx0
        have hy1 := (HBI.out.cell (World.block_lt_of_cell? w3 _ hx1)).trans hx1
        simp only [Int.toNat_natCast] at hy0 hy1
        have HX := Aside0.mk (And.intro hx0 hx1)
        have HOf2 := Aside0.mk hOf2
        have HMu2 := Aside0.mk hMu2
        have HCp := Aside0.mk hCp
        have HE1 := Aside0.mk (And.intro hm1 hD1)
        clear hx0 hx1 he0 he1 hOf2 hMu2 hCp hm1 hD1 HL1 hj1 eb
        by_cases hc : cp > 0
        ·have hcd : decide (cp > 0) = true := decide_eq_true hc
         rw [if_pos hc, if_pos (by omega), if_pos (by omega)] at h1
         obtain ⟨z, hrv, h1⟩ := Option.bind_eq_some_iff.1 h1
         obtain ⟨i06, hi06, _, hsz6, _⟩ := info_parts info30
         have hcut := cut_from (P := Tryz.prog) 36 30 .i64 Tryz.underlying36 hi06 1 hsz6 Ao out2.length co (out.length : Int) (by omega) (by omega)
         obtain ⟨Ar, hAr⟩ : ∃ A1, A1 = (if co = ((out.length : Nat) : Int).toNat then Ao else Ao.map (·.add (((out.length : Nat) : Int).toNat * 1))) := ⟨_, rfl⟩
         obtain ⟨cr, hcr⟩ : ∃ c1, c1 = co - ((out.length : Nat) : Int).toNat := ⟨_, rfl⟩
         obtain ⟨mr, hmr⟩ : ∃ m, m = out2.length - ((out.length : Nat) : Int).toNat := ⟨_, rfl⟩
         rw [← hmr, ← hAr, ← hcr] at hcut
         have HAr := Aside0.mk hAr
         have Hmr := Aside0.mk hmr
         have hlo2 : (out.length : Int) ≤ (out2.length : Int) := by omega
         have HRv := Aside0.mk hrv
         clear hAr hcr hmr hsz6 hi06 hrv
         have HL2 := Aside0.mk h1
         clear h1 hwj
         go_wp2_with (first
          | (go_at_call 41; (with_reducible refine (g_whole_Of.calls e0 t2 _ (Glob.below HG.out HBr.out) HOf2.out).mono ?_); rintro e w6 ⟨rfl, hb⟩; have HB6 := Aside0.mk hb; clear hb)
          | (go_at_call 40; (with_reducible refine (whole_Mul.calls k2 t2 num t3 _ (Glob.below HG.out (below_step HBr.out HB6.out)) HMu2.out).mono ?_); rintro e w7 ⟨rfl, hb⟩; have HB7 := Aside0.mk (below_step HB6.out hb); clear hb)
          | (go_at_call 37; (with_reducible refine (whole_Compare.calls up t3 cp _ HCp.out).mono ?_); rintro e w8 ⟨rfl, hb⟩; have HB8 := Aside0.mk (below_step HB7.out hb); clear hb)
          | (go_at_call 44; (with_reducible refine (g_rev_Row.calls (Kd.N_below HO.out HB8.out) HAr.out Hmr.out HRv.out).mono ?_); rintro e w9 ⟨rfl, hO9, hb9, hg9⟩; have HO9 := Aside0.mk hO9; have HB9 := Aside0.mk hb9; clear hO9 hb9 hg9))
         go_roundg k2
         case measure => omega
         case rel => exact ⟨k2, i + 1, z, by rw [w64_id (by have := HEn.out; omega)]; rfl, Nat.le_refl _, by omega, ⟨by have h := HL2.out; rw [w64_id (by have := HEn.out; omega)] at h; exact h⟩, HO9, ⟨(below_step HBI.out HB8.out).trans HB9.out⟩⟩
        ·have hcd : decide (cp > 0) = false := decide_eq_false hc
         rw [if_neg hc] at h1
         obtain ⟨ap, hAp, h1⟩ := Option.bind_eq_some_iff.1 h1
         have HAp := Aside0.mk hAp
         have HL2 := Aside0.mk h1
         have HWj := Aside0.mk hwj
         clear hAp h1 hwj
         go_wp2_with (first
          | (go_at_call 41; (with_reducible refine (g_whole_Of.calls e0 t2 _ (Glob.below HG.out HBr.out) HOf2.out).mono ?_); rintro e w6 ⟨rfl, hb⟩; have HB6 := Aside0.mk hb; clear hb)
          | (go_at_call 40; (with_reducible refine (whole_Mul.calls k2 t2 num t3 _ (Glob.below HG.out (below_step HBr.out HB6.out)) HMu2.out).mono ?_); rintro e w7 ⟨rfl, hb⟩; have HB7 := Aside0.mk (below_step HB6.out hb); clear hb)
          | (go_at_call 37; (with_reducible refine (whole_Compare.calls up t3 cp _ HCp.out).mono ?_); rintro e w8 ⟨rfl, hb⟩; have HB8 := Aside0.mk (below_step HB7.out hb); clear hb))
         have HBI8 := Aside0.mk (below_step HBI.out HB8.out)
         have BA8 := (HB8.out.block wo.heap.size (Array.getElem?_eq_some_iff.1 BAw.out).1).trans BAw.out
         obtain ⟨ha0, ha1⟩ := c2_cells BA8
         have hz0 := (HBI8.out.cell (World.block_lt_of_cell? w3 _ HX.out.1)).trans HX.out.1
         have hz1 := (HBI8.out.cell (World.block_lt_of_cell? w3 _ HX.out.2)).trans HX.out.2
         simp only [Int.toNat_natCast] at hz0 hz1
         clear hy0 hy1
         have HBI9 := Aside0.mk (below_drew1 HBI8.out)
         have BA9 : Aside0 (w8.drew.heap[wo.heap.size]? = some (.cells #[.int .i64 f0, .slice A1 f1.length c1] 83 (0, 0))) := ⟨BA8⟩
         have HO9 := Aside0.mk (Kd.N_drew (Kd.N_below HO.out HB8.out))
         clear BA8 HBI8
         go_still_tail 5, (by kernel_rfl)
         change wpList _ _ _ _ _ w8.drew
         generalize w8.drew = w9 at HBI9 BA9 HO9 ⊢
         cases ap with
         | true =>
          have h1 := HL2.out
          rw [if_pos rfl] at h1
          by_cases hfull : (out2.length : Int) = 10000
          ·rw [if_pos hfull] at h1
           obtain ⟨rfl, rfl⟩ := Prod.mk.inj (Option.some.inj h1)
           have hfn : out2.length = 10000 := by omega
           clear h1
           go_wp2_with (go_at_call 42; (with_reducible refine (comma_apart.calls k2 f0 A1 c1 f1 e0 B1 d1 e1 true w9 (Kd.C_below HF1.out.2 HBI9.out) HF1.out.1 (Kd.C_below HE1.out.2 HBI9.out) HE1.out.1 HAp.out).mono ?_); rintro e w10 ⟨rfl, hb⟩; have HB10 := Aside0.mk (below_step HBI9.out hb); have BA10 := Aside0.mk ((hb.block wo.heap.size (Array.getElem?_eq_some_iff.1 BA9.out).1).trans BA9.out); have HO10 := Aside0.mk (Kd.N_below HO9.out hb); clear hb ha0 ha1 hz0 hz1; obtain ⟨ha0, ha1⟩ := c2_cells BA10.out; have hz1 := (HB10.out.cell (World.block_lt_of_cell? w3 _ HX.out.2)).trans HX.out.2; simp only [Int.toNat_natCast] at hz1)
           go_ret2
           exact ⟨_, rfl, Kd.N_nil _ _ _ _ _, below_step HB3.out HB10.out⟩
          ·rw [if_neg hfull] at h1
           obtain ⟨⟨xr, er⟩, hSub, h1⟩ := Option.bind_eq_some_iff.1 h1
           have hfn : ¬ out2.length = 10000 := by omega
           by_cases hbig : out2.length < 5864062014805
           ·rw [if_pos hbig] at h1
            have Hfull := Aside0.mk hbig
            have HSub := Aside0.mk hSub
            have HL3 := Aside0.mk h1
            clear h1 hSub hbig
            go_wp2_with (go_at_call 42; (with_reducible refine (comma_apart.calls k2 f0 A1 c1 f1 e0 B1 d1 e1 true w9 (Kd.C_below HF1.out.2 HBI9.out) HF1.out.1 (Kd.C_below HE1.out.2 HBI9.out) HE1.out.1 HAp.out).mono ?_); rintro e w10 ⟨rfl, hb⟩; have HB10 := Aside0.mk (below_step HBI9.out hb); have BA10 := Aside0.mk ((hb.block wo.heap.size (Array.getElem?_eq_some_iff.1 BA9.out).1).trans BA9.out); have HO10 := Aside0.mk (Kd.N_below HO9.out hb); clear hb ha0 ha1 hz0 hz1; obtain ⟨ha0, ha1⟩ := c2_cells BA10.out; have hz1 := (HB10.out.cell (World.block_lt_of_cell? w3 _ HX.out.2)).trans HX.out.2; simp only [Int.toNat_natCast] at hz1)
            have HB14 := Aside0.mk (below_drew1 HB10.out)
            have BA14 : Aside0 (w10.drew.heap[wo.heap.size]? = some (.cells #[.int .i64 f0, .slice A1 f1.length c1] 83 (0, 0))) := ⟨BA10.out⟩
            have HO14 := Aside0.mk (Kd.N_drew HO10.out)
            obtain ⟨w14, hw14⟩ : ∃ w14, w14 = w10.drew := ⟨_, rfl⟩
            rw [← hw14] at HB14 BA14 HO14
            have HW14 := Aside0.mk hw14
            clear hw14
            go_region_with (first
             | (go_at_call 43; (with_reducible refine (g_row_Sub.calls A1 c1 f1 B1 d1 e1 xr er _ ?s1 HF1.out.1 ?s2 HE1.out.1 HSub.out).mono ?_); (case s1 => rw [← HW14.out]; exact Kd.C_below HF1.out.2 HB14.out); (case s2 => rw [← HW14.out]; exact Kd.C_below HE1.out.2 HB14.out); rw [← HW14.out]; rintro e w11 ⟨v11, rfl, hR, hb⟩; have HR11 := Aside0.mk hR; have HB11 := Aside0.mk hb; have BA11 := Aside0.mk ((hb.block wo.heap.size (Array.getElem?_eq_some_iff.1 BA14.out).1).trans BA14.out); clear hR hb; obtain ⟨A11, c11, rfl⟩ := Kd.R_slice HR11.out; have HFK := Aside0.mk (show Kd.FK (Kd.slice 3 (Kd.int .i64)) w11 (fun k_ => w14.heap.size ≤ k_) xr [.slice A11 xr.length c11] from Kd.FK_slice_mk (Kd.R_reads' HR11.out).2.1 (Kd.R_F (Kd.R_mono (Kd.R_bound HR11.out) (fun k hk => hk.2.1))))))
            all_goals go_wp2_with ((with_reducible refine gate_builtin (b := .append) (xs := #[.tmp 86, .tmp 88]) rfl ?_); at_builtin; refine Kd.N_append (Kd.slice 3 (Kd.int .i64)) (w0 := w3) w3.heap.size rfl (.tmp 86) (.tmp 88) 36 30 (.slice none 0 0) 24 rfl Tryz.underlying36 info30 rfl (by decide) (by omega) (.slice Ao out2.length co) out2 xr [.slice A11 xr.length c11] (fun k_ => w3.heap.size ≤ k_) (fun k_ => w14.heap.size ≤ k_) rfl rfl HFK.out (fun k hk => ⟨Nat.le_trans HB14.out.size hk, fun he => absurd (Kd.N_lt HO14.out k he.symm) (by omega)⟩) (fun k hk => Nat.le_trans (below_step HB14.out HB11.out).size hk) (Kd.N_below HO14.out HB11.out) (below_step HB14.out HB11.out) (below_step HB14.out HB11.out).size (by have := Hfull.out; omega) ?_; intro v12 w12 hN hB hg hat; have HO12 := Aside0.mk hN; have HB12 := Aside0.mk hB; have BA12 := Aside0.mk ((hg.block wo.heap.size (Array.getElem?_eq_some_iff.1 BA11.out).1 (Kd.N_ne (Kd.N_below HO14.out HB11.out) BA11.out (by decide))).trans BA11.out); clear hN hB hg hat)
            all_goals go_roundg k2
            all_goals first
             | omega
             | exact ⟨k2, out2 ++ [xr], (jn : Int) - 1, congrArg _ HWj.out, by omega, by omega, Nat.le_refl _, by omega, by rw [List.length_append]; omega, HL3, HO12, BA12, HB12⟩
           ·rw [if_neg hbig] at h1
            cases h1
         | false =>
          have h1 := HL2.out
          rw [if_neg (by decide)] at h1
          have HL3 := Aside0.mk h1
          clear h1
          go_wp2_with (go_at_call 42; (with_reducible refine (comma_apart.calls k2 f0 A1 c1 f1 e0 B1 d1 e1 false w9 (Kd.C_below HF1.out.2 HBI9.out) HF1.out.1 (Kd.C_below HE1.out.2 HBI9.out) HE1.out.1 HAp.out).mono ?_); rintro e w10 ⟨rfl, hb⟩; have HB10 := Aside0.mk (below_step HBI9.out hb); have BA10 := Aside0.mk ((hb.block wo.heap.size (Array.getElem?_eq_some_iff.1 BA9.out).1).trans BA9.out); have HO10 := Aside0.mk (Kd.N_below HO9.out hb); clear hb ha0 ha1 hz0 hz1; obtain ⟨ha0, ha1⟩ := c2_cells BA10.out; have hz1 := (HB10.out.cell (World.block_lt_of_cell? w3 _ HX.out.2)).trans HX.out.2; simp only [Int.toNat_natCast] at hz1)
          go_roundg k2
          case measure => omega
          case rel => exact ⟨k2, out2, (jn : Int) - 1, congrArg _ HWj.out, by omega, by omega, Nat.le_refl _, by omega, hlo, HL3, HO10, BA10, HB10⟩
       ·have hjd : decide (j ≥ 0) = false := decide_eq_false hj
        rw [if_neg hj, if_pos (by omega), if_pos (by omega)] at h1
        obtain ⟨z, hrv, h1⟩ := Option.bind_eq_some_iff.1 h1
        obtain ⟨i06, hi06, _, hsz6, _⟩ := info_parts info30
        have hcut := cut_from (P := Tryz.prog) 36 30 .i64 Tryz.underlying36 hi06 1 hsz6 Ao out2.length co (out.length : Int) (by omega) (by omega)
        obtain ⟨Ar, hAr⟩ : ∃ A1, A1 = (if co = ((out.length : Nat) : Int).toNat then Ao else Ao.map (·.add (((out.length : Nat) : Int).toNat * 1))) := ⟨_, rfl⟩
        obtain ⟨cr, hcr⟩ : ∃ c1, c1 = co - ((out.length : Nat) : Int).toNat := ⟨_, rfl⟩
        obtain ⟨mr, hmr⟩ : ∃ m, m = out2.length - ((out.length : Nat) : Int).toNat := ⟨_, rfl⟩
        rw [← hmr, ← hAr, ← hcr] at hcut
        have HAr := Aside0.mk hAr
        have Hmr := Aside0.mk hmr
        have hlo2 : (out.length : Int) ≤ (out2.length : Int) := by omega
        have HRv := Aside0.mk hrv
        clear hAr hcr hmr hsz6 hi06 hrv
        have HL2 := Aside0.mk h1
        clear h1
        go_wp2_with (go_at_call 44; (with_reducible refine (g_rev_Row.calls HO.out HAr.out Hmr.out HRv.out).mono ?_); rintro e w9 ⟨rfl, hO9, hb9, hg9⟩; have HO9 := Aside0.mk hO9; have HB9 := Aside0.mk hb9; clear hO9 hb9 hg9)
        go_roundg k2
        case measure => omega
        case rel => exact ⟨k2, i + 1, z, by rw [w64_id (by have := HEn.out; omega)]; rfl, Nat.le_refl _, by omega, ⟨by have h := HL2.out; rw [w64_id (by have := HEn.out; omega)] at h; exact h⟩, HO9, ⟨HBI.out.trans HB9.out⟩⟩
    ·have hltd : decide ((i : Int) < (es.length : Int)) = false := decide_eq_false (by omega)
     rw [if_neg (by omega)] at h0
     obtain ⟨rfl, rfl⟩ := Prod.mk.inj (Option.some.inj h0)
     clear h0
     go_wp2
     go_ret2
     exact ⟨_, rfl, Kd.N_mono (Kd.N_lower HO.out HB3.out.size) (fun _ hk => Nat.le_trans HB3.out.size hk), below_step HB3.out HBI.out⟩
 ·rw [if_neg he] at h
  obtain ⟨rfl, rfl⟩ := Prod.mk.inj (Option.some.inj h)
  have hed : (e0 == 0) = false := beq_eq_false_iff_ne.mpr he
  have hed2 : (e0 != 0) = true := bne_iff_ne.mpr he
  clear h
  go_enter Tryz.func14, Tryz.ntmps14
  go_wp2_with (go_at_call 33; (with_reducible refine (comma_Check.calls k A0_0 c0_0 l0_0 a0_1 A0_2 c0_2 l0_2 e0 _ ?sG (Kd.C_alloc HR0.out _) HC0.out (Kd.C_alloc HR2.out _) HC2.out HE.out).mono ?_); (case sG => exact Glob.below HG.out (below_alloc (Below.refl _ _) _)); rintro e w1 ⟨rfl, hb⟩; have bq : w1.heap[w.heap.size]? = some (.cells #[.slice A0_0 l0_0.length c0_0, .int .i64 a0_1, .slice A0_2 l0_2.length c0_2] 32 (0, 0)) := (hb.block w.heap.size (by simp only [size_alloc]; omega)).trans (by simp only [heap_alloc]; rw [if_pos trivial]); obtain ⟨hc0, hc1, hc2⟩ := c3_cells bq; have BQ := Aside0.mk bq; clear bq; have HB1 := Aside0.mk (show Below w.heap.size w w1 from below_step (below_alloc (Below.refl _ _) _) hb); clear hb)
  go_ret2
  exact ⟨_, rfl, Kd.N_nil _ _ _ _ _, HB1.out⟩
mutual
def schismalaw12_Value.l0 : Nat → List Int → List Int → ByteArray → ByteArray → Int → Option (ByteArray × ByteArray)
 | 0, _, _, _, _, _ => none
 | k + 1, x0, x1, x4, x5, x6 => if x6 < (x0.length : Int) then (schismalaw12_Value.j1 k x0 x1 x4 x5 x6 (decide (x6 < (x1.length : Int)))) else (schismalaw12_Value.j1 k x0 x1 x4 x5 x6 false)
def schismalaw12_Value.j1 : Nat → List Int → List Int → ByteArray → ByteArray → Int → Bool → Option (ByteArray × ByteArray)
 | 0, _, _, _, _, _, _ => none
 | k + 1, x0, x1, x4, x5, x6, x18 => if x18 = true then (schismalaw12_Value.l1 k x0 x1 x4 x5 x6 0) else (some (x4, x5))
def schismalaw12_Value.l1 : Nat → List Int → List Int → ByteArray → ByteArray → Int → Int → Option (ByteArray × ByteArray)
 | 0, _, _, _, _, _, _ => none
 | k + 1, x0, x1, x4, x5, x6, x7 => if 0 ≤ x6 then (if x6 < (x1.length : Int) then (if x7 < (rd x1 x6) then (if x6 < (x0.length : Int) then ((g_whole_Of.f (rd x0 x6)).bind fun t203 => ((whole_Mul.f k x4 t203).bind fun t204 => (schismalaw12_Value.l1 k x0 x1 t204 x5 x6 (wrap64 (x7 + 1))))) else (none)) else (schismalaw12_Value.l2 k x0 x1 x4 x5 x6 0)) else (none)) else (none)
def schismalaw12_Value.l2 : Nat → List Int → List Int → ByteArray → ByteArray → Int → Int → Option (ByteArray × ByteArray)
 | 0, _, _, _, _, _, _ => none
 | k + 1, x0, x1, x4, x5, x6, x8 => if 0 ≤ x6 then (if x6 < (x1.length : Int) then (if x8 > (rd x1 x6) then (if x6 < (x0.length : Int) then ((g_whole_Of.f (rd x0 x6)).bind fun t207 => ((whole_Mul.f k x5 t207).bind fun t208 => (schismalaw12_Value.l2 k x0 x1 x4 t208 x6 (wrap64 (x8 - 1))))) else (none)) else (schismalaw12_Value.l0 k x0 x1 x4 x5 (wrap64 (x6 + 1)))) else (none)) else (none)
end
def schismalaw12_Value.f (k : Nat) (l0 : List Int) (l1 : List Int) : Option (ByteArray × ByteArray) := schismalaw12_Value.l0 k l0 l1 (⟨#[49]⟩ : ByteArray) (⟨#[49]⟩ : ByteArray) 0
theorem schismalaw12_Value.mono_l : ∀ k, (∀ y0 y1 y2 y3 y4, LeO (schismalaw12_Value.l0 k y0 y1 y2 y3 y4) (schismalaw12_Value.l0 (k + 1) y0 y1 y2 y3 y4)) ∧ (∀ y0 y1 y2 y3 y4 y5, LeO (schismalaw12_Value.j1 k y0 y1 y2 y3 y4 y5) (schismalaw12_Value.j1 (k + 1) y0 y1 y2 y3 y4 y5)) ∧ (∀ y0 y1 y2 y3 y4 y5, LeO (schismalaw12_Value.l1 k y0 y1 y2 y3 y4 y5) (schismalaw12_Value.l1 (k + 1) y0 y1 y2 y3 y4 y5)) ∧ (∀ y0 y1 y2 y3 y4 y5, LeO (schismalaw12_Value.l2 k y0 y1 y2 y3 y4 y5) (schismalaw12_Value.l2 (k + 1) y0 y1 y2 y3 y4 y5))
 | 0 => ⟨fun _ _ _ _ _ r h => by simp [schismalaw12_Value.l0] at h, fun _ _ _ _ _ _ r h => by simp [schismalaw12_Value.j1] at h, fun _ _ _ _ _ _ r h => by simp [schismalaw12_Value.l1] at h, fun _ _ _ _ _ _ r h => by simp [schismalaw12_Value.l2] at h⟩
 | k + 1 => by
  obtain ⟨ih0, ih1, ih2, ih3⟩ := schismalaw12_Value.mono_l k
  refine ⟨?_, ?_, ?_, ?_⟩
  ·intro y0 y1 y2 y3 y4
   unfold schismalaw12_Value.l0
   repeat' first
   | (with_reducible exact ih0 _ _ _ _ _)
   | (with_reducible exact ih1 _ _ _ _ _ _)
   | (with_reducible exact ih2 _ _ _ _ _ _)
   | (with_reducible exact ih3 _ _ _ _ _ _)
   | with_reducible apply whole_Mul.mono
   | (with_reducible exact LeO.refl _)
   | (with_reducible exact LeO.none _)
   | (with_reducible refine LeO.ite ?_ ?_)
   | (with_reducible refine LeO.bind ?_ (fun _ => ?_))
   | refine LeO.ite ?_ ?_
   | refine LeO.bind ?_ (fun _ => ?_)
  ·intro y0 y1 y2 y3 y4 y5
   unfold schismalaw12_Value.j1
   repeat' first
   | (with_reducible exact ih0 _ _ _ _ _)
   | (with_reducible exact ih1 _ _ _ _ _ _)
   | (with_reducible exact ih2 _ _ _ _ _ _)
   | (with_reducible exact ih3 _ _ _ _ _ _)
   | with_reducible apply whole_Mul.mono
   | (with_reducible exact LeO.refl _)
   | (with_reducible exact LeO.none _)
   | (with_reducible refine LeO.ite ?_ ?_)
   | (with_reducible refine LeO.bind ?_ (fun _ => ?_))
   | refine LeO.ite ?_ ?_
   | refine LeO.bind ?_ (fun _ => ?_)
  ·intro y0 y1 y2 y3 y4 y5
   unfold schismalaw12_Value.l1
   repeat' first
   | (with_reducible exact ih0 _ _ _ _ _)
   | (with_reducible exact ih1 _ _ _ _ _ _)
   | (with_reducible exact ih2 _ _ _ _ _ _)
   | (with_reducible exact ih3 _ _ _ _ _ _)
   | with_reducible apply whole_Mul.mono
   | (with_reducible exact LeO.refl _)
   | (with_reducible exact LeO.none _)
   | (with_reducible refine LeO.ite ?_ ?_)
   | (with_reducible refine LeO.bind ?_ (fun _ => ?_))
   | refine LeO.ite ?_ ?_
   | refine LeO.bind ?_ (fun _ => ?_)
  ·intro y0 y1 y2 y3 y4 y5
   unfold schismalaw12_Value.l2
   repeat' first
   | (with_reducible exact ih0 _ _ _ _ _)
   | (with_reducible exact ih1 _ _ _ _ _ _)
   | (with_reducible exact ih2 _ _ _ _ _ _)
   | (with_reducible exact ih3 _ _ _ _ _ _)
   | with_reducible apply whole_Mul.mono
   | (with_reducible exact LeO.refl _)
   | (with_reducible exact LeO.none _)
   | (with_reducible refine LeO.ite ?_ ?_)
   | (with_reducible refine LeO.bind ?_ (fun _ => ?_))
   | refine LeO.ite ?_ ?_
   | refine LeO.bind ?_ (fun _ => ?_)
theorem schismalaw12_Value.mono : ∀ a0 a1 k, LeO (schismalaw12_Value.f k a0 a1) (schismalaw12_Value.f (k + 1) a0 a1) := by
 intro a0 a1 k
 obtain ⟨ih0, ih1, ih2, ih3⟩ := schismalaw12_Value.mono_l k
 unfold schismalaw12_Value.f
 repeat' first
   | (with_reducible exact ih0 _ _ _ _ _)
   | (with_reducible exact ih1 _ _ _ _ _ _)
   | (with_reducible exact ih2 _ _ _ _ _ _)
   | (with_reducible exact ih3 _ _ _ _ _ _)
   | with_reducible apply whole_Mul.mono
   | (with_reducible exact LeO.refl _)
   | (with_reducible exact LeO.none _)
   | (with_reducible refine LeO.ite ?_ ?_)
   | (with_reducible refine LeO.bind ?_ (fun _ => ?_))
   | refine LeO.ite ?_ ?_
   | refine LeO.bind ?_ (fun _ => ?_)
def schismalaw16_gcd.l0 : Nat → Int → Int → Option (Int)
 | 0, _, _ => none
 | k + 1, x0, x1 => if x1 = 0 then (some x0) else (schismalaw16_gcd.l0 k x1 (Int.tmod x0 x1))
def schismalaw16_gcd.f (k : Nat) (a0 : Int) (a1 : Int) : Option (Int) := schismalaw16_gcd.l0 k a0 a1
theorem schismalaw16_gcd.mono_l : ∀ k, (∀ y0 y1, LeO (schismalaw16_gcd.l0 k y0 y1) (schismalaw16_gcd.l0 (k + 1) y0 y1))
 | 0 => fun _ _ r h => by simp [schismalaw16_gcd.l0] at h
 | k + 1 => by
  have ih0 := schismalaw16_gcd.mono_l k
  ·intro y0 y1
   unfold schismalaw16_gcd.l0
   repeat' first
   | (with_reducible exact ih0 _ _)
   | (with_reducible exact LeO.refl _)
   | (with_reducible exact LeO.none _)
   | (with_reducible refine LeO.ite ?_ ?_)
   | (with_reducible refine LeO.bind ?_ (fun _ => ?_))
   | refine LeO.ite ?_ ?_
   | refine LeO.bind ?_ (fun _ => ?_)
theorem schismalaw16_gcd.mono : ∀ a0 a1 k, LeO (schismalaw16_gcd.f k a0 a1) (schismalaw16_gcd.f (k + 1) a0 a1) := by
 intro a0 a1 k
 have ih0 := schismalaw16_gcd.mono_l k
 unfold schismalaw16_gcd.f
 repeat' first
   | (with_reducible exact ih0 _ _)
   | (with_reducible exact LeO.refl _)
   | (with_reducible exact LeO.none _)
   | (with_reducible refine LeO.ite ?_ ?_)
   | (with_reducible refine LeO.bind ?_ (fun _ => ?_))
   | refine LeO.ite ?_ ?_
   | refine LeO.bind ?_ (fun _ => ?_)
mutual
def schismalaw16_list.l0 : Nat → ByteArray → ByteArray → List (List Int) → List (S47) → Int → List Int → Int → List Int → Option ((List (List Int)) × (List (S47)))
 | 0, _, _, _, _, _, _, _, _ => none
 | k + 1, x4, x5, x6, x7, x8, x345000, x345001, x345002 => if x8 ≤ x345001 then ((schismalaw16_exponents.f k x345000 x8).bind fun bt347 => (if bt347.2 = true then (schismalaw16_list.l1 k x4 x5 x6 x7 x8 bt347.1 1 x345000 x345001 x345002) else (schismalaw16_list.l0 k x4 x5 x6 x7 (wrap64 (x8 + 1)) x345000 x345001 x345002))) else (some (x6, x7))
def schismalaw16_list.l1 : Nat → ByteArray → ByteArray → List (List Int) → List (S47) → Int → List Int → Int → List Int → Int → List Int → Option ((List (List Int)) × (List (S47)))
 | 0, _, _, _, _, _, _, _, _, _, _ => none
 | k + 1, x4, x5, x6, x7, x8, x9, x11, x345000, x345001, x345002 => if x11 < x8 then ((schismalaw16_exponents.f k x345000 x11).bind fun bt351 => (if bt351.2 = true then ((schismalaw16_gcd.f k x8 x11).bind fun t355 => (if t355 = 1 then ((g_whole_Of.f x8).bind fun t356 => ((whole_Mul.f k t356 x5).bind fun t357 => ((g_whole_Of.f x11).bind fun t358 => ((whole_Mul.f k x4 t358).bind fun t359 => ((whole_Compare.f t357 t359).bind fun t360 => (schismalaw16_list.j2 k x4 x5 x6 x7 x8 x9 x11 bt351.1 (decide (t360 > 0)) x345000 x345001 x345002)))))) else (schismalaw16_list.j2 k x4 x5 x6 x7 x8 x9 x11 bt351.1 true x345000 x345001 x345002))) else (schismalaw16_list.j2 k x4 x5 x6 x7 x8 x9 x11 bt351.1 true x345000 x345001 x345002))) else (schismalaw16_list.l0 k x4 x5 x6 x7 (wrap64 (x8 + 1)) x345000 x345001 x345002)
def schismalaw16_list.j2 : Nat → ByteArray → ByteArray → List (List Int) → List (S47) → Int → List Int → Int → List Int → Bool → List Int → Int → List Int → Option ((List (List Int)) × (List (S47)))
 | 0, _, _, _, _, _, _, _, _, _, _, _, _ => none
 | k + 1, x4, x5, x6, x7, x8, x9, x11, x12, x70, x345000, x345001, x345002 => if x70 = true then (schismalaw16_list.l1 k x4 x5 x6 x7 x8 x9 (wrap64 (x11 + 1)) x345000 x345001 x345002) else (if 0 ≤ (x9.length : Int) then (if ((x9.length : Int) : Int).toNat ≤ 35184372088832 then (schismalaw16_list.l2 k x4 x5 x6 x7 x8 x9 x11 x12 (List.replicate ((x9.length : Int) : Int).toNat 0) 0 x345000 x345001 x345002) else (none)) else (none))
def schismalaw16_list.l2 : Nat → ByteArray → ByteArray → List (List Int) → List (S47) → Int → List Int → Int → List Int → List Int → Int → List Int → Int → List Int → Option ((List (List Int)) × (List (S47)))
 | 0, _, _, _, _, _, _, _, _, _, _, _, _, _ => none
 | k + 1, x4, x5, x6, x7, x8, x9, x11, x12, x14, x15, x345000, x345001, x345002 => if x15 < (x9.length : Int) then (if 0 ≤ x15 then (if x15 < (x12.length : Int) then (if x15 < (x14.length : Int) then (schismalaw16_list.l2 k x4 x5 x6 x7 x8 x9 x11 x12 (x14.set (x15 : Int).toNat (wrap64 ((rd x9 x15) - (rd x12 x15)))) (wrap64 (x15 + 1)) x345000 x345001 x345002) else (none)) else (none)) else (none)) else (if x6.length < 5864062014805 then (if x7.length < 8796093022208 then (schismalaw16_list.l1 k x4 x5 (x6 ++ [x14]) (x7 ++ [(⟨x8, x11⟩ : S47)]) x8 x9 (wrap64 (x11 + 1)) x345000 x345001 x345002) else (none)) else (none))
end
def schismalaw16_list.f (k : Nat) (l0_0 : List Int) (a0_1 : Int) (l0_2 : List Int) : Option ((List (List Int)) × (List (S47))) := (schismalaw12_Value.f k l0_0 l0_2).bind fun bt345 => (schismalaw16_list.l0 k bt345.1 bt345.2 ([] : List (List Int)) ([] : List (S47)) 2 l0_0 a0_1 l0_2)
theorem schismalaw16_list.mono_l : ∀ k, (∀ y0 y1 y2 y3 y4 y5 y6 y7, LeO (schismalaw16_list.l0 k y0 y1 y2 y3 y4 y5 y6 y7) (schismalaw16_list.l0 (k + 1) y0 y1 y2 y3 y4 y5 y6 y7)) ∧ (∀ y0 y1 y2 y3 y4 y5 y6 y7 y8 y9, LeO (schismalaw16_list.l1 k y0 y1 y2 y3 y4 y5 y6 y7 y8 y9) (schismalaw16_list.l1 (k + 1) y0 y1 y2 y3 y4 y5 y6 y7 y8 y9)) ∧ (∀ y0 y1 y2 y3 y4 y5 y6 y7 y8 y9 y10 y11, LeO (schismalaw16_list.j2 k y0 y1 y2 y3 y4 y5 y6 y7 y8 y9 y10 y11) (schismalaw16_list.j2 (k + 1) y0 y1 y2 y3 y4 y5 y6 y7 y8 y9 y10 y11)) ∧ (∀ y0 y1 y2 y3 y4 y5 y6 y7 y8 y9 y10 y11 y12, LeO (schismalaw16_list.l2 k y0 y1 y2 y3 y4 y5 y6 y7 y8 y9 y10 y11 y12) (schismalaw16_list.l2 (k + 1) y0 y1 y2 y3 y4 y5 y6 y7 y8 y9 y10 y11 y12))
 | 0 => ⟨fun _ _ _ _ _ _ _ _ r h => by simp [schismalaw16_list.l0] at h, fun _ _ _ _ _ _ _ _ _ _ r h => by simp [schismalaw16_list.l1] at h, fun _ _ _ _ _ _ _ _ _ _ _ _ r h => by simp [schismalaw16_list.j2] at h, fun _ _ _ _ _ _ _ _ _ _ _ _ _ r h => by simp [schismalaw16_list.l2] at h⟩
 | k + 1 => by
  obtain ⟨ih0, ih1, ih2, ih3⟩ := schismalaw16_list.mono_l k
  refine ⟨?_, ?_, ?_, ?_⟩
  ·intro y0 y1 y2 y3 y4 y5 y6 y7
   unfold schismalaw16_list.l0
   repeat' first
   | (with_reducible exact ih0 _ _ _ _ _ _ _ _)
   | (with_reducible exact ih1 _ _ _ _ _ _ _ _ _ _)
   | (with_reducible exact ih2 _ _ _ _ _ _ _ _ _ _ _ _)
   | (with_reducible exact ih3 _ _ _ _ _ _ _ _ _ _ _ _ _)
   | with_reducible apply schismalaw12_Value.mono
   | with_reducible apply schismalaw16_exponents.mono
   | with_reducible apply schismalaw16_gcd.mono
   | with_reducible apply whole_Mul.mono
   | (with_reducible exact LeO.refl _)
   | (with_reducible exact LeO.none _)
   | (with_reducible refine LeO.ite ?_ ?_)
   | (with_reducible refine LeO.bind ?_ (fun _ => ?_))
   | refine LeO.ite ?_ ?_
   | refine LeO.bind ?_ (fun _ => ?_)
  ·intro y0 y1 y2 y3 y4 y5 y6 y7 y8 y9
   unfold schismalaw16_list.l1
   repeat' first
   | (with_reducible exact ih0 _ _ _ _ _ _ _ _)
   | (with_reducible exact ih1 _ _ _ _ _ _ _ _ _ _)
   | (with_reducible exact ih2 _ _ _ _ _ _ _ _ _ _ _ _)
   | (with_reducible exact ih3 _ _ _ _ _ _ _ _ _ _ _ _ _)
   | with_reducible apply schismalaw12_Value.mono
   | with_reducible apply schismalaw16_exponents.mono
   | with_reducible apply schismalaw16_gcd.mono
   | with_reducible apply whole_Mul.mono
   | (with_reducible exact LeO.refl _)
   | (with_reducible exact LeO.none _)
   | (with_reducible refine LeO.ite ?_ ?_)
   | (with_reducible refine LeO.bind ?_ (fun _ => ?_))
   | refine LeO.ite ?_ ?_
   | refine LeO.bind ?_ (fun _ => ?_)
  ·intro y0 y1 y2 y3 y4 y5 y6 y7 y8 y9 y10 y11
   unfold schismalaw16_list.j2
   repeat' first
   | (with_reducible exact ih0 _ _ _ _ _ _ _ _)
   | (with_reducible exact ih1 _ _ _ _ _ _ _ _ _ _)
   | (with_reducible exact ih2 _ _ _ _ _ _ _ _ _ _ _ _)
   | (with_reducible exact ih3 _ _ _ _ _ _ _ _ _ _ _ _ _)
   | with_reducible apply schismalaw12_Value.mono
   | with_reducible apply schismalaw16_exponents.mono
   | with_reducible apply schismalaw16_gcd.mono
   | with_reducible apply whole_Mul.mono
   | (with_reducible exact LeO.refl _)
   | (with_reducible exact LeO.none _)
   | (with_reducible refine LeO.ite ?_ ?_)
   | (with_reducible refine LeO.bind ?_ (fun _ => ?_))
   | refine LeO.ite ?_ ?_
   | refine LeO.bind ?_ (fun _ => ?_)
  ·intro y0 y1 y2 y3 y4 y5 y6 y7 y8 y9 y10 y11 y12
   unfold schismalaw16_list.l2
   repeat' first
   | (with_reducible exact ih0 _ _ _ _ _ _ _ _)
   | (with_reducible exact ih1 _ _ _ _ _ _ _ _ _ _)
   | (with_reducible exact ih2 _ _ _ _ _ _ _ _ _ _ _ _)
   | (with_reducible exact ih3 _ _ _ _ _ _ _ _ _ _ _ _ _)
   | with_reducible apply schismalaw12_Value.mono
   | with_reducible apply schismalaw16_exponents.mono
   | with_reducible apply schismalaw16_gcd.mono
   | with_reducible apply whole_Mul.mono
   | (with_reducible exact LeO.refl _)
   | (with_reducible exact LeO.none _)
   | (with_reducible refine LeO.ite ?_ ?_)
   | (with_reducible refine LeO.bind ?_ (fun _ => ?_))
   | refine LeO.ite ?_ ?_
   | refine LeO.bind ?_ (fun _ => ?_)
theorem schismalaw16_list.mono : ∀ a0 a1 a2 k, LeO (schismalaw16_list.f k a0 a1 a2) (schismalaw16_list.f (k + 1) a0 a1 a2) := by
 intro a0 a1 a2 k
 obtain ⟨ih0, ih1, ih2, ih3⟩ := schismalaw16_list.mono_l k
 unfold schismalaw16_list.f
 repeat' first
   | (with_reducible exact ih0 _ _ _ _ _ _ _ _)
   | (with_reducible exact ih1 _ _ _ _ _ _ _ _ _ _)
   | (with_reducible exact ih2 _ _ _ _ _ _ _ _ _ _ _ _)
   | (with_reducible exact ih3 _ _ _ _ _ _ _ _ _ _ _ _ _)
   | with_reducible apply schismalaw12_Value.mono
   | with_reducible apply schismalaw16_exponents.mono
   | with_reducible apply schismalaw16_gcd.mono
   | with_reducible apply whole_Mul.mono
   | (with_reducible exact LeO.refl _)
   | (with_reducible exact LeO.none _)
   | (with_reducible refine LeO.ite ?_ ?_)
   | (with_reducible refine LeO.bind ?_ (fun _ => ?_))
   | refine LeO.ite ?_ ?_
   | refine LeO.bind ?_ (fun _ => ?_)
def schismalaw12_Primes.f (a0 : Int) : Option (List Int) := (some (([(([2, 3, 5] : List Int)), (([2, 3, 5, 7] : List Int)), (([2, 3] : List Int)), (([2, 3, 7] : List Int)), (([2, 5, 7] : List Int)), (([3, 5, 7] : List Int)), (([2, 3, 5, 11] : List Int)), (([2] : List Int)), (([2, 3, 7, 13] : List Int)), (([3, 5, 7, 13] : List Int))] : List (List Int)) : List (List Int))).bind fun y131 => (if (y131.length : Int) = 0 then (none) else (if 0 ≤ (Int.tmod (wrap64 (a0)) (y131.length : Int)) then (if (Int.tmod (wrap64 (a0)) (y131.length : Int)) < (y131.length : Int) then (some (rd_L1 y131 (Int.tmod (wrap64 (a0)) (y131.length : Int)))) else (none)) else (none)))
def schismalaw12_Make.f (a0_0 : Int) (a0_1 : Int) (a0_2 : Int) (a0_3 : Int) (a0_4 : Int) : Option (List Int × List Int) := (schismalaw12_Primes.f a0_0).bind fun t136 => ((g_Interval.f t136 a0_1 a0_2 a0_3 a0_4).bind fun t139 => (some (t136, t139)))
def schismalaw16_Make.f (k : Nat) (a0_0 : Int) (a0_1 : Int) (a0_2 : Int) (a0_3 : Int) (a0_4 : Int) (a0_5 : Int) : Option (List Int × Int × List Int × Bool) := (schismalaw12_Make.f a0_0 a0_1 a0_2 a0_3 a0_4).bind fun bt219 => ((schismalaw12_Value.f k bt219.1 bt219.2).bind fun bt225 => ((whole_Compare.f bt225.1 bt225.2).bind fun t227 => (some (bt219.1, wrap64 (1 + (Int.tmod (wrap64 (a0_5)) 130)), bt219.2, decide (t227 > 0)))))
theorem schismalaw16_Make.mono : ∀ a0 a1 a2 a3 a4 a5 k, LeO (schismalaw16_Make.f k a0 a1 a2 a3 a4 a5) (schismalaw16_Make.f (k + 1) a0 a1 a2 a3 a4 a5) := by
 intro a0 a1 a2 a3 a4 a5 k
 unfold schismalaw16_Make.f
 repeat' first
   | with_reducible apply schismalaw12_Value.mono
   | (with_reducible exact LeO.refl _)
   | (with_reducible exact LeO.none _)
   | (with_reducible refine LeO.ite ?_ ?_)
   | (with_reducible refine LeO.bind ?_ (fun _ => ?_))
   | refine LeO.ite ?_ ?_
   | refine LeO.bind ?_ (fun _ => ?_)
def schismalaw12_Same.l0 : Nat → List Int → List Int → Int → Option (Bool)
 | 0, _, _, _ => none
 | k + 1, x0, x1, x5 => if x5 < (x0.length : Int) then (if 0 ≤ x5 then (if x5 < (x1.length : Int) then (if (rd x0 x5) = (rd x1 x5) then (schismalaw12_Same.l0 k x0 x1 (wrap64 (x5 + 1))) else (some false)) else (none)) else (none)) else (some true)
def schismalaw12_Same.f (k : Nat) (l0 : List Int) (l1 : List Int) : Option (Bool) := if (l0.length : Int) = (l1.length : Int) then (schismalaw12_Same.l0 k l0 l1 0) else (some false)
theorem schismalaw12_Same.mono_l : ∀ k, (∀ y0 y1 y2, LeO (schismalaw12_Same.l0 k y0 y1 y2) (schismalaw12_Same.l0 (k + 1) y0 y1 y2))
 | 0 => fun _ _ _ r h => by simp [schismalaw12_Same.l0] at h
 | k + 1 => by
  have ih0 := schismalaw12_Same.mono_l k
  ·intro y0 y1 y2
   unfold schismalaw12_Same.l0
   repeat' first
   | (with_reducible exact ih0 _ _ _)
   | (with_reducible exact LeO.refl _)
   | (with_reducible exact LeO.none _)
   | (with_reducible refine LeO.ite ?_ ?_)
   | (with_reducible refine LeO.bind ?_ (fun _ => ?_))
   | refine LeO.ite ?_ ?_
   | refine LeO.bind ?_ (fun _ => ?_)
theorem schismalaw12_Same.mono : ∀ a0 a1 k, LeO (schismalaw12_Same.f k a0 a1) (schismalaw12_Same.f (k + 1) a0 a1) := by
 intro a0 a1 k
 have ih0 := schismalaw12_Same.mono_l k
 unfold schismalaw12_Same.f
 repeat' first
   | (with_reducible exact ih0 _ _ _)
   | (with_reducible exact LeO.refl _)
   | (with_reducible exact LeO.none _)
   | (with_reducible refine LeO.ite ?_ ?_)
   | (with_reducible refine LeO.bind ?_ (fun _ => ?_))
   | refine LeO.ite ?_ ?_
   | refine LeO.bind ?_ (fun _ => ?_)
theorem schismalaw12_Same.calls (k : Nat) (A0 : Option Addr) (c0 : Nat) (l0 : List Int) (A1 : Option Addr) (c1 : Nat) (l1 : List Int) (r : Bool) (w : World) (hr0 : Kd.C (Kd.int .i64) w A0 l0.length l0) (hc0 : l0.length ≤ c0) (hr1 : Kd.C (Kd.int .i64) w A1 l1.length l1) (hc1 : l1.length ≤ c1) (h : schismalaw12_Same.f k l0 l1 = some r) :
  Calls Tryz.prog 26 #[.slice A0 l0.length c0, .slice A1 l1.length c1] w fun e w' => e = .returned (.bool r) ∧ Drawn0 w w' := by
 have HR0 := Aside0.mk hr0
 have HC0 := Aside0.mk hc0
 clear hr0 hc0
 have HR1 := Aside0.mk hr1
 have HC1 := Aside0.mk hc1
 clear hr1 hc1
 have H : (if (l0.length : Int) = (l1.length : Int) then (schismalaw12_Same.l0 k l0 l1 0) else (some false)) = some r := h
 clear h
 by_cases c3 : (l0.length : Int) = (l1.length : Int)
 ·rw [if_pos c3] at H
  have c3b0 : ((l0.length : Int) == (l1.length : Int)) = true := beq_iff_eq.mpr c3
  have c3b1 : ((l0.length : Int) != (l1.length : Int)) = false := bne_eq_false_iff_eq.mpr c3
  have c3b2 : (l0.length == l1.length) = true := by first | simpa using c3 | (simp at c3 ⊢; omega)
  clear c3
  have H' := Aside0.mk H
  clear H
  go_enter Tryz.func26, Tryz.ntmps26
  go_wp2
  repeat (go_quiet (fail); try go_wp2)
  go_loopg [5] k (fun kq v5 w' => ∃ (x5_1 : Int), v5 = .int .i64 x5_1 ∧ Aside0 (schismalaw12_Same.l0 kq l0 l1 x5_1 = some r) ∧ Aside0 (kq ≤ k) ∧ Drawn0 w w')
  case atStart => exact ⟨(0), (by first | rfl | (simp; done) | (simp [*]; done)), H', ⟨Nat.le_refl _⟩, by repeat (first | exact Drawn0.refl _ | apply Drawn0.step)⟩
  case round =>
   clear H'
   try clear c1
   try clear c2
   try clear p2
   try clear c3
   try clear c3b0
   try clear c3b1
   try clear c3b2
   obtain ⟨x5_1, rfl, HA, HK1, ⟨m1, rfl⟩⟩ := hrel
   cases gk with
   | zero => exact absurd HA.out (by simp [schismalaw12_Same.l0])
   | succ k1 =>
    have H := HA.out
    clear HA
    simp only [schismalaw12_Same.l0] at H
    by_cases c4 : x5_1 < (l0.length : Int)
    ·rw [if_pos c4] at H
     have c4b0 : decide (x5_1 < (l0.length : Int)) = true := decide_eq_true c4
     clear c4
     by_cases c5 : 0 ≤ x5_1
     ·rw [if_pos c5] at H
      have c5b0 : decide (0 ≤ x5_1) = true := decide_eq_true c5
      clear c5
      by_cases c6 : x5_1 < (l1.length : Int)
      ·rw [if_pos c6] at H
       have c6b0 : decide (x5_1 < (l1.length : Int)) = true := decide_eq_true c6
       clear c6
       by_cases c7 : (rd l0 x5_1) = (rd l1 x5_1)
       ·rw [if_pos c7] at H
        have c7b0 : ((rd l0 x5_1) == (rd l1 x5_1)) = true := beq_iff_eq.mpr c7
        have c7b1 : ((rd l0 x5_1) != (rd l1 x5_1)) = false := bne_eq_false_iff_eq.mpr c7
        clear c7
        have H' := Aside0.mk H
        clear H
        have p373 : 0 ≤ (x5_1 : Int) := of_decide_eq_true (by with_reducible assumption)
        have q373 : x5_1 < (l0.length : Int) := of_decide_eq_true (by with_reducible assumption)
        obtain ⟨ad373, e373, hx373_0⟩ := Kd.at_int HR0.out x5_1 p373 q373
        cases e373
        replace p373 := eq_true p373
        replace q373 := eq_true q373
        have p374 : 0 ≤ (x5_1 : Int) := of_decide_eq_true (by with_reducible assumption)
        have q374 : x5_1 < (l1.length : Int) := of_decide_eq_true (by with_reducible assumption)
        obtain ⟨ad374, e374, hx374_0⟩ := Kd.at_int HR1.out x5_1 p374 q374
        cases e374
        replace p374 := eq_true p374
        replace q374 := eq_true q374
        go_wp2
        repeat (go_quiet (fail); try go_wp2)
        go_roundg k1
        case measure => have := HK1.out; omega
        case rel => exact ⟨(wrap64 (x5_1 + 1)), (by first | rfl | (simp; done) | (simp [*]; done)), H', ⟨by have := HK1.out; omega⟩, by repeat (first | exact Drawn0.refl _ | apply Drawn0.step)⟩
       ·rw [if_neg c7] at H
        have c7b0 : ((rd l0 x5_1) == (rd l1 x5_1)) = false := beq_eq_false_iff_ne.mpr c7
        have c7b1 : ((rd l0 x5_1) != (rd l1 x5_1)) = true := bne_iff_ne.mpr c7
        obtain rfl := Option.some.inj H
        have p373 : 0 ≤ (x5_1 : Int) := of_decide_eq_true (by with_reducible assumption)
        have q373 : x5_1 < (l0.length : Int) := of_decide_eq_true (by with_reducible assumption)
        obtain ⟨ad373, e373, hx373_0⟩ := Kd.at_int HR0.out x5_1 p373 q373
        cases e373
        replace p373 := eq_true p373
        replace q373 := eq_true q373
        have p374 : 0 ≤ (x5_1 : Int) := of_decide_eq_true (by with_reducible assumption)
        have q374 : x5_1 < (l1.length : Int) := of_decide_eq_true (by with_reducible assumption)
        obtain ⟨ad374, e374, hx374_0⟩ := Kd.at_int HR1.out x5_1 p374 q374
        cases e374
        replace p374 := eq_true p374
        replace q374 := eq_true q374
        go_wp2
        repeat (go_quiet (fail); try go_wp2)
        go_ret
        exact ⟨by first | rfl | (simp; done) | (simp [*]; done), by repeat (first | exact Drawn0.refl _ | apply Drawn0.step)⟩
      ·rw [if_neg c6] at H
       exact absurd H (by simp)
     ·rw [if_neg c5] at H
      exact absurd H (by simp)
    ·rw [if_neg c4] at H
     have c4b0 : decide (x5_1 < (l0.length : Int)) = false := decide_eq_false c4
     clear c4
     obtain rfl := Option.some.inj H
     go_wp2
     repeat (go_quiet (fail); try go_wp2)
     go_ret
     exact ⟨by first | rfl | (simp; done) | (simp [*]; done), by repeat (first | exact Drawn0.refl _ | apply Drawn0.step)⟩
 ·rw [if_neg c3] at H
  have c3b0 : ((l0.length : Int) == (l1.length : Int)) = false := beq_eq_false_iff_ne.mpr c3
  have c3b1 : ((l0.length : Int) != (l1.length : Int)) = true := bne_iff_ne.mpr c3
  have c3b2 : (l0.length == l1.length) = false := by first | simpa using c3 | (simp at c3 ⊢; omega)
  obtain rfl := Option.some.inj H
  go_enter Tryz.func26, Tryz.ntmps26
  go_wp2
  repeat (go_quiet (fail); try go_wp2)
  go_ret
  exact ⟨by first | rfl | (simp; done) | (simp [*]; done), by repeat (first | exact Drawn0.refl _ | apply Drawn0.step)⟩
def schismalaw16_same.l0 : Nat → List (List Int) → List (List Int) → Int → Option (Bool)
 | 0, _, _, _ => none
 | k + 1, x0, x1, x5 => if x5 < (x0.length : Int) then (if 0 ≤ x5 then (if x5 < (x1.length : Int) then ((schismalaw12_Same.f k (rd_L1 x0 x5) (rd_L1 x1 x5)).bind fun t377 => (if t377 = true then (schismalaw16_same.l0 k x0 x1 (wrap64 (x5 + 1))) else (some false))) else (none)) else (none)) else (some true)
def schismalaw16_same.f (k : Nat) (l0 : List (List Int)) (l1 : List (List Int)) : Option (Bool) := if (l0.length : Int) = (l1.length : Int) then (schismalaw16_same.l0 k l0 l1 0) else (some false)
theorem schismalaw16_same.mono_l : ∀ k, (∀ y0 y1 y2, LeO (schismalaw16_same.l0 k y0 y1 y2) (schismalaw16_same.l0 (k + 1) y0 y1 y2))
 | 0 => fun _ _ _ r h => by simp [schismalaw16_same.l0] at h
 | k + 1 => by
  have ih0 := schismalaw16_same.mono_l k
  ·intro y0 y1 y2
   unfold schismalaw16_same.l0
   repeat' first
   | (with_reducible exact ih0 _ _ _)
   | with_reducible apply schismalaw12_Same.mono
   | (with_reducible exact LeO.refl _)
   | (with_reducible exact LeO.none _)
   | (with_reducible refine LeO.ite ?_ ?_)
   | (with_reducible refine LeO.bind ?_ (fun _ => ?_))
   | refine LeO.ite ?_ ?_
   | refine LeO.bind ?_ (fun _ => ?_)
theorem schismalaw16_same.mono : ∀ a0 a1 k, LeO (schismalaw16_same.f k a0 a1) (schismalaw16_same.f (k + 1) a0 a1) := by
 intro a0 a1 k
 have ih0 := schismalaw16_same.mono_l k
 unfold schismalaw16_same.f
 repeat' first
   | (with_reducible exact ih0 _ _ _)
   | with_reducible apply schismalaw12_Same.mono
   | (with_reducible exact LeO.refl _)
   | (with_reducible exact LeO.none _)
   | (with_reducible refine LeO.ite ?_ ?_)
   | (with_reducible refine LeO.bind ?_ (fun _ => ?_))
   | refine LeO.ite ?_ ?_
   | refine LeO.bind ?_ (fun _ => ?_)
theorem schismalaw16_same.calls (k : Nat) (A0 : Option Addr) (c0 : Nat) (l0 : List (List Int)) (A1 : Option Addr) (c1 : Nat) (l1 : List (List Int)) (r : Bool) (w : World) (hr0 : Kd.C (Kd.slice 3 (Kd.int .i64)) w A0 l0.length l0) (hc0 : l0.length ≤ c0) (hr1 : Kd.C (Kd.slice 3 (Kd.int .i64)) w A1 l1.length l1) (hc1 : l1.length ≤ c1) (h : schismalaw16_same.f k l0 l1 = some r) :
  Calls Tryz.prog 16 #[.slice A0 l0.length c0, .slice A1 l1.length c1] w fun e w' => e = .returned (.bool r) ∧ Drawn0 w w' := by
 have HR0 := Aside0.mk hr0
 have HC0 := Aside0.mk hc0
 clear hr0 hc0
 have HR1 := Aside0.mk hr1
 have HC1 := Aside0.mk hc1
 clear hr1 hc1
 have H : (if (l0.length : Int) = (l1.length : Int) then (schismalaw16_same.l0 k l0 l1 0) else (some false)) = some r := h
 clear h
 by_cases c3 : (l0.length : Int) = (l1.length : Int)
 ·rw [if_pos c3] at H
  have c3b0 : ((l0.length : Int) == (l1.length : Int)) = true := beq_iff_eq.mpr c3
  have c3b1 : ((l0.length : Int) != (l1.length : Int)) = false := bne_eq_false_iff_eq.mpr c3
  have c3b2 : (l0.length == l1.length) = true := by first | simpa using c3 | (simp at c3 ⊢; omega)
  clear c3
  have H' := Aside0.mk H
  clear H
  go_enter Tryz.func16, Tryz.ntmps16
  go_wp2
  repeat (go_quiet (fail); try go_wp2)
  go_loopg [5] k (fun kq v5 w' => ∃ (x5_1 : Int), v5 = .int .i64 x5_1 ∧ Aside0 (schismalaw16_same.l0 kq l0 l1 x5_1 = some r) ∧ Aside0 (kq ≤ k) ∧ Drawn0 w w')
  case atStart => exact ⟨(0), (by first | rfl | (simp; done) | (simp [*]; done)), H', ⟨Nat.le_refl _⟩, by repeat (first | exact Drawn0.refl _ | apply Drawn0.step)⟩
  case round =>
   clear H'
   try clear c1
   try clear p2
   try clear c3
   try clear c3b0
   try clear c3b1
   try clear c3b2
   obtain ⟨x5_1, rfl, HA, HK1, ⟨m1, rfl⟩⟩ := hrel
   cases gk with
   | zero => exact absurd HA.out (by simp [schismalaw16_same.l0])
   | succ k1 =>
    have H := HA.out
    clear HA
    simp only [schismalaw16_same.l0] at H
    by_cases c4 : x5_1 < (l0.length : Int)
    ·rw [if_pos c4] at H
     have c4b0 : decide (x5_1 < (l0.length : Int)) = true := decide_eq_true c4
     clear c4
     by_cases c5 : 0 ≤ x5_1
     ·rw [if_pos c5] at H
      have c5b0 : decide (0 ≤ x5_1) = true := decide_eq_true c5
      clear c5
      by_cases c6 : x5_1 < (l1.length : Int)
      ·rw [if_pos c6] at H
       have c6b0 : decide (x5_1 < (l1.length : Int)) = true := decide_eq_true c6
       clear c6
       replace H := Option.bind_eq_some_iff.mp H
       obtain ⟨t377, A70, H⟩ := H
       replace H : (if t377 = true then (schismalaw16_same.l0 k1 l0 l1 (wrap64 (x5_1 + 1))) else (some false)) = some r := H
       have A7 := Aside0.mk A70
       clear A70
       by_cases c8 : t377 = true
       ·subst c8
        have H1 : (schismalaw16_same.l0 k1 l0 l1 (wrap64 (x5_1 + 1))) = some r := by rw [if_pos rfl] at H; exact H
        clear H
        have H := H1
        clear H1
        have H' := Aside0.mk H
        clear H
        have p375 : 0 ≤ (x5_1 : Int) := of_decide_eq_true (by with_reducible assumption)
        have q375 : x5_1 < (l0.length : Int) := of_decide_eq_true (by with_reducible assumption)
        obtain ⟨ad375, A375_0, c375_0, e375, hx375_0, hl375_0, hi375_0⟩ := at_L1 HR0.out x5_1 p375 q375
        cases e375
        have HR375_0 := Aside0.mk hi375_0
        have HC375_0 := Aside0.mk hl375_0
        clear hi375_0 hl375_0
        replace p375 := eq_true p375
        replace q375 := eq_true q375
        have p376 : 0 ≤ (x5_1 : Int) := of_decide_eq_true (by with_reducible assumption)
        have q376 : x5_1 < (l1.length : Int) := of_decide_eq_true (by with_reducible assumption)
        obtain ⟨ad376, A376_0, c376_0, e376, hx376_0, hl376_0, hi376_0⟩ := at_L1 HR1.out x5_1 p376 q376
        cases e376
        have HR376_0 := Aside0.mk hi376_0
        have HC376_0 := Aside0.mk hl376_0
        clear hi376_0 hl376_0
        replace p376 := eq_true p376
        replace q376 := eq_true q376
        go_wp2_with (first | (go_at_call 26; (with_reducible refine (schismalaw12_Same.calls k1 _ _ (rd_L1 l0 x5_1) _ _ (rd_L1 l1 x5_1) true _ ?side1 ?side2 ?side3 ?side4 A7.out).mono ?_); (case side1 => repeat (first | exact HR375_0.out | (with_reducible refine Kd.C_alloc ?_ _) | (with_reducible refine Kd.C_drewN ?_ _) | (with_reducible refine Kd.C_drew ?_))); (case side2 => exact HC375_0.out); (case side3 => repeat (first | exact HR376_0.out | (with_reducible refine Kd.C_alloc ?_ _) | (with_reducible refine Kd.C_drewN ?_ _) | (with_reducible refine Kd.C_drew ?_))); (case side4 => exact HC376_0.out); rintro e w' ⟨rfl, ⟨nd, rfl⟩⟩; (try first | exact ⟨rfl, _, World.drewN_drewN _ _ _⟩ | exact ⟨rfl, _, Eq.trans (World.drewN_drewN _ _ _) (congrArg (World.drewN _) (Nat.add_assoc _ _ _))⟩)))
        repeat (go_quiet (first | (go_at_call 26; (with_reducible refine (schismalaw12_Same.calls k1 _ _ (rd_L1 l0 x5_1) _ _ (rd_L1 l1 x5_1) true _ ?side1 ?side2 ?side3 ?side4 A7.out).mono ?_); (case side1 => repeat (first | exact HR375_0.out | (with_reducible refine Kd.C_alloc ?_ _) | (with_reducible refine Kd.C_drewN ?_ _) | (with_reducible refine Kd.C_drew ?_))); (case side2 => exact HC375_0.out); (case side3 => repeat (first | exact HR376_0.out | (with_reducible refine Kd.C_alloc ?_ _) | (with_reducible refine Kd.C_drewN ?_ _) | (with_reducible refine Kd.C_drew ?_))); (case side4 => exact HC376_0.out); rintro e w' ⟨rfl, ⟨nd, rfl⟩⟩; (try first | exact ⟨rfl, _, World.drewN_drewN _ _ _⟩ | exact ⟨rfl, _, Eq.trans (World.drewN_drewN _ _ _) (congrArg (World.drewN _) (Nat.add_assoc _ _ _))⟩))); try go_wp2_with (first | (go_at_call 26; (with_reducible refine (schismalaw12_Same.calls k1 _ _ (rd_L1 l0 x5_1) _ _ (rd_L1 l1 x5_1) true _ ?side1 ?side2 ?side3 ?side4 A7.out).mono ?_); (case side1 => repeat (first | exact HR375_0.out | (with_reducible refine Kd.C_alloc ?_ _) | (with_reducible refine Kd.C_drewN ?_ _) | (with_reducible refine Kd.C_drew ?_))); (case side2 => exact HC375_0.out); (case side3 => repeat (first | exact HR376_0.out | (with_reducible refine Kd.C_alloc ?_ _) | (with_reducible refine Kd.C_drewN ?_ _) | (with_reducible refine Kd.C_drew ?_))); (case side4 => exact HC376_0.out); rintro e w' ⟨rfl, ⟨nd, rfl⟩⟩; (try first | exact ⟨rfl, _, World.drewN_drewN _ _ _⟩ | exact ⟨rfl, _, Eq.trans (World.drewN_drewN _ _ _) (congrArg (World.drewN _) (Nat.add_assoc _ _ _))⟩))))
        go_roundg k1
        case measure => have := HK1.out; omega
        case rel => exact ⟨(wrap64 (x5_1 + 1)), (by first | rfl | (simp; done) | (simp [*]; done)), H', ⟨by have := HK1.out; omega⟩, by repeat (first | exact Drawn0.refl _ | apply Drawn0.step)⟩
       ·replace c8 := Bool.eq_false_iff.mpr c8
        subst c8
        have H1 : (some false) = some r := by rw [if_neg (show ¬ (false = true) by decide)] at H; exact H
        clear H
        have H := H1
        clear H1
        obtain rfl := Option.some.inj H
        have p375 : 0 ≤ (x5_1 : Int) := of_decide_eq_true (by with_reducible assumption)
        have q375 : x5_1 < (l0.length : Int) := of_decide_eq_true (by with_reducible assumption)
        obtain ⟨ad375, A375_0, c375_0, e375, hx375_0, hl375_0, hi375_0⟩ := at_L1 HR0.out x5_1 p375 q375
        cases e375
        have HR375_0 := Aside0.mk hi375_0
        have HC375_0 := Aside0.mk hl375_0
        clear hi375_0 hl375_0
        replace p375 := eq_true p375
        replace q375 := eq_true q375
        have p376 : 0 ≤ (x5_1 : Int) := of_decide_eq_true (by with_reducible assumption)
        have q376 : x5_1 < (l1.length : Int) := of_decide_eq_true (by with_reducible assumption)
        obtain ⟨ad376, A376_0, c376_0, e376, hx376_0, hl376_0, hi376_0⟩ := at_L1 HR1.out x5_1 p376 q376
        cases e376
        have HR376_0 := Aside0.mk hi376_0
        have HC376_0 := Aside0.mk hl376_0
        clear hi376_0 hl376_0
        replace p376 := eq_true p376
        replace q376 := eq_true q376
        go_wp2_with (first | (go_at_call 26; (with_reducible refine (schismalaw12_Same.calls k1 _ _ (rd_L1 l0 x5_1) _ _ (rd_L1 l1 x5_1) false _ ?side1 ?side2 ?side3 ?side4 A7.out).mono ?_); (case side1 => repeat (first | exact HR375_0.out | (with_reducible refine Kd.C_alloc ?_ _) | (with_reducible refine Kd.C_drewN ?_ _) | (with_reducible refine Kd.C_drew ?_))); (case side2 => exact HC375_0.out); (case side3 => repeat (first | exact HR376_0.out | (with_reducible refine Kd.C_alloc ?_ _) | (with_reducible refine Kd.C_drewN ?_ _) | (with_reducible refine Kd.C_drew ?_))); (case side4 => exact HC376_0.out); rintro e w' ⟨rfl, ⟨nd, rfl⟩⟩; (try first | exact ⟨rfl, _, World.drewN_drewN _ _ _⟩ | exact ⟨rfl, _, Eq.trans (World.drewN_drewN _ _ _) (congrArg (World.drewN _) (Nat.add_assoc _ _ _))⟩)))
        repeat (go_quiet (first | (go_at_call 26; (with_reducible refine (schismalaw12_Same.calls k1 _ _ (rd_L1 l0 x5_1) _ _ (rd_L1 l1 x5_1) false _ ?side1 ?side2 ?side3 ?side4 A7.out).mono ?_); (case side1 => repeat (first | exact HR375_0.out | (with_reducible refine Kd.C_alloc ?_ _) | (with_reducible refine Kd.C_drewN ?_ _) | (with_reducible refine Kd.C_drew ?_))); (case side2 => exact HC375_0.out); (case side3 => repeat (first | exact HR376_0.out | (with_reducible refine Kd.C_alloc ?_ _) | (with_reducible refine Kd.C_drewN ?_ _) | (with_reducible refine Kd.C_drew ?_))); (case side4 => exact HC376_0.out); rintro e w' ⟨rfl, ⟨nd, rfl⟩⟩; (try first | exact ⟨rfl, _, World.drewN_drewN _ _ _⟩ | exact ⟨rfl, _, Eq.trans (World.drewN_drewN _ _ _) (congrArg (World.drewN _) (Nat.add_assoc _ _ _))⟩))); try go_wp2_with (first | (go_at_call 26; (with_reducible refine (schismalaw12_Same.calls k1 _ _ (rd_L1 l0 x5_1) _ _ (rd_L1 l1 x5_1) false _ ?side1 ?side2 ?side3 ?side4 A7.out).mono ?_); (case side1 => repeat (first | exact HR375_0.out | (with_reducible refine Kd.C_alloc ?_ _) | (with_reducible refine Kd.C_drewN ?_ _) | (with_reducible refine Kd.C_drew ?_))); (case side2 => exact HC375_0.out); (case side3 => repeat (first | exact HR376_0.out | (with_reducible refine Kd.C_alloc ?_ _) | (with_reducible refine Kd.C_drewN ?_ _) | (with_reducible refine Kd.C_drew ?_))); (case side4 => exact HC376_0.out); rintro e w' ⟨rfl, ⟨nd, rfl⟩⟩; (try first | exact ⟨rfl, _, World.drewN_drewN _ _ _⟩ | exact ⟨rfl, _, Eq.trans (World.drewN_drewN _ _ _) (congrArg (World.drewN _) (Nat.add_assoc _ _ _))⟩))))
        go_ret
        exact ⟨by first | rfl | (simp; done) | (simp [*]; done), by repeat (first | exact Drawn0.refl _ | apply Drawn0.step)⟩
      ·rw [if_neg c6] at H
       exact absurd H (by simp)
     ·rw [if_neg c5] at H
      exact absurd H (by simp)
    ·rw [if_neg c4] at H
     have c4b0 : decide (x5_1 < (l0.length : Int)) = false := decide_eq_false c4
     clear c4
     obtain rfl := Option.some.inj H
     go_wp2
     repeat (go_quiet (fail); try go_wp2)
     go_ret
     exact ⟨by first | rfl | (simp; done) | (simp [*]; done), by repeat (first | exact Drawn0.refl _ | apply Drawn0.step)⟩
 ·rw [if_neg c3] at H
  have c3b0 : ((l0.length : Int) == (l1.length : Int)) = false := beq_eq_false_iff_ne.mpr c3
  have c3b1 : ((l0.length : Int) != (l1.length : Int)) = true := bne_iff_ne.mpr c3
  have c3b2 : (l0.length == l1.length) = false := by first | simpa using c3 | (simp at c3 ⊢; omega)
  obtain rfl := Option.some.inj H
  go_enter Tryz.func16, Tryz.ntmps16
  go_wp2
  repeat (go_quiet (fail); try go_wp2)
  go_ret
  exact ⟨by first | rfl | (simp; done) | (simp [*]; done), by repeat (first | exact Drawn0.refl _ | apply Drawn0.step)⟩
def cmp_isNaN_int.f (a0 : Int) : Option (Bool) := some (a0 != a0)
theorem cmp_isNaN_int.calls (a0 : Int) (r : Bool) (w : World) (h : cmp_isNaN_int.f a0 = some r) :
  Calls Tryz.prog 175 #[.int .i64 a0] w fun e w' => e = .returned (.bool r) ∧ Drawn0 w w' := by
 have H : (some (a0 != a0)) = some r := h
 clear h
 obtain rfl := Option.some.inj H
 go_enter Tryz.func175, Tryz.ntmps175
 go_wp2
 go_ret
 exact ⟨by first | rfl | (simp; done) | (simp [*]; done), by repeat (first | exact Drawn0.refl _ | apply Drawn0.step)⟩
def cmp_Compare_int.f (a0 : Int) (a1 : Int) : Option (Int) := (cmp_isNaN_int.f a0).bind fun t462 => ((cmp_isNaN_int.f a1).bind fun t463 => (if t462 = true then (if t463 = true then (some 0) else (some (-1))) else (if t463 = true then (some 1) else (if a0 < a1 then (some (-1)) else (if a0 > a1 then (some 1) else (some 0))))))
theorem cmp_Compare_int.calls (a0 : Int) (a1 : Int) (r : Int) (w : World) (h : cmp_Compare_int.f a0 a1 = some r) :
  Calls Tryz.prog 135 #[.int .i64 a0, .int .i64 a1] w fun e w' => e = .returned (.int .i64 r) ∧ Drawn0 w w' := by
 have H : ((cmp_isNaN_int.f a0).bind fun t462 => ((cmp_isNaN_int.f a1).bind fun t463 => (if t462 = true then (if t463 = true then (some 0) else (some (-1))) else (if t463 = true then (some 1) else (if a0 < a1 then (some (-1)) else (if a0 > a1 then (some 1) else (some 0))))))) = some r := h
 clear h
 replace H := Option.bind_eq_some_iff.mp H
 obtain ⟨t462, A30, H⟩ := H
 replace H : ((cmp_isNaN_int.f a1).bind fun t463 => (if t462 = true then (if t463 = true then (some 0) else (some (-1))) else (if t463 = true then (some 1) else (if a0 < a1 then (some (-1)) else (if a0 > a1 then (some 1) else (some 0)))))) = some r := H
 have A3 := Aside0.mk A30
 clear A30
 replace H := Option.bind_eq_some_iff.mp H
 obtain ⟨t463, A40, H⟩ := H
 replace H : (if t462 = true then (if t463 = true then (some 0) else (some (-1))) else (if t463 = true then (some 1) else (if a0 < a1 then (some (-1)) else (if a0 > a1 then (some 1) else (some 0))))) = some r := H
 have A4 := Aside0.mk A40
 clear A40
 by_cases c5 : t462 = true
 ·subst c5
  have H1 : (if t463 = true then (some 0) else (some (-1))) = some r := by rw [if_pos rfl] at H; exact H
  clear H
  have H := H1
  clear H1
  by_cases c6 : t463 = true
  ·subst c6
   have H1 : (some 0) = some r := by rw [if_pos rfl] at H; exact H
   clear H
   have H := H1
   clear H1
   obtain rfl := Option.some.inj H
   go_enter Tryz.func135, Tryz.ntmps135
   go_wp2_with (first | ((with_reducible refine gate_callee (f := 175) rfl ?_); refine goesL_ (some 8) rfl rfl Tryz.func175 (by kernel_rfl) rfl #[.int .i64 a0] rfl (by (try simp only [List.map_toArray, List.map_cons, List.map_nil]); first | done | rfl | (simp only [List.length_drop, List.length_take]; rfl)) ?_; (with_reducible refine (cmp_isNaN_int.calls a0 true _ A3.out).mono ?_); rintro e w' ⟨rfl, ⟨nd, rfl⟩⟩; refine ⟨_, rfl, ?_⟩) | ((with_reducible refine gate_callee (f := 175) rfl ?_); refine goesL_ (some 10) rfl rfl Tryz.func175 (by kernel_rfl) rfl #[.int .i64 a1] rfl (by (try simp only [List.map_toArray, List.map_cons, List.map_nil]); first | done | rfl | (simp only [List.length_drop, List.length_take]; rfl)) ?_; (with_reducible refine (cmp_isNaN_int.calls a1 true _ A4.out).mono ?_); rintro e w' ⟨rfl, ⟨nd, rfl⟩⟩; refine ⟨_, rfl, ?_⟩))
   go_ret
   exact ⟨by first | rfl | (simp; done) | (simp [*]; done), by repeat (first | exact Drawn0.refl _ | apply Drawn0.step)⟩
  ·replace c6 := Bool.eq_false_iff.mpr c6
   subst c6
   have H1 : (some (-1)) = some r := by rw [if_neg (show ¬ (false = true) by decide)] at H; exact H
   clear H
   have H := H1
   clear H1
   obtain rfl := Option.some.inj H
   go_enter Tryz.func135, Tryz.ntmps135
   go_wp2_with (first | ((with_reducible refine gate_callee (f := 175) rfl ?_); refine goesL_ (some 8) rfl rfl Tryz.func175 (by kernel_rfl) rfl #[.int .i64 a0] rfl (by (try simp only [List.map_toArray, List.map_cons, List.map_nil]); first | done | rfl | (simp only [List.length_drop, List.length_take]; rfl)) ?_; (with_reducible refine (cmp_isNaN_int.calls a0 true _ A3.out).mono ?_); rintro e w' ⟨rfl, ⟨nd, rfl⟩⟩; refine ⟨_, rfl, ?_⟩) | ((with_reducible refine gate_callee (f := 175) rfl ?_); refine goesL_ (some 10) rfl rfl Tryz.func175 (by kernel_rfl) rfl #[.int .i64 a1] rfl (by (try simp only [List.map_toArray, List.map_cons, List.map_nil]); first | done | rfl | (simp only [List.length_drop, List.length_take]; rfl)) ?_; (with_reducible refine (cmp_isNaN_int.calls a1 false _ A4.out).mono ?_); rintro e w' ⟨rfl, ⟨nd, rfl⟩⟩; refine ⟨_, rfl, ?_⟩))
   go_ret
   exact ⟨by first | rfl | (simp; done) | (simp [*]; done), by repeat (first | exact Drawn0.refl _ | apply Drawn0.step)⟩
 ·replace c5 := Bool.eq_false_iff.mpr c5
  subst c5
  have H1 : (if t463 = true then (some 1) else (if a0 < a1 then (some (-1)) else (if a0 > a1 then (some 1) else (some 0)))) = some r := by rw [if_neg (show ¬ (false = true) by decide)] at H; exact H
  clear H
  have H := H1
  clear H1
  by_cases c7 : t463 = true
  ·subst c7
   have H1 : (some 1) = some r := by rw [if_pos rfl] at H; exact H
   clear H
   have H := H1
   clear H1
   obtain rfl := Option.some.inj H
   go_enter Tryz.func135, Tryz.ntmps135
   go_wp2_with (first | ((with_reducible refine gate_callee (f := 175) rfl ?_); refine goesL_ (some 8) rfl rfl Tryz.func175 (by kernel_rfl) rfl #[.int .i64 a0] rfl (by (try simp only [List.map_toArray, List.map_cons, List.map_nil]); first | done | rfl | (simp only [List.length_drop, List.length_take]; rfl)) ?_; (with_reducible refine (cmp_isNaN_int.calls a0 false _ A3.out).mono ?_); rintro e w' ⟨rfl, ⟨nd, rfl⟩⟩; refine ⟨_, rfl, ?_⟩) | ((with_reducible refine gate_callee (f := 175) rfl ?_); refine goesL_ (some 10) rfl rfl Tryz.func175 (by kernel_rfl) rfl #[.int .i64 a1] rfl (by (try simp only [List.map_toArray, List.map_cons, List.map_nil]); first | done | rfl | (simp only [List.length_drop, List.length_take]; rfl)) ?_; (with_reducible refine (cmp_isNaN_int.calls a1 true _ A4.out).mono ?_); rintro e w' ⟨rfl, ⟨nd, rfl⟩⟩; refine ⟨_, rfl, ?_⟩))
   go_ret
   exact ⟨by first | rfl | (simp; done) | (simp [*]; done), by repeat (first | exact Drawn0.refl _ | apply Drawn0.step)⟩
  ·replace c7 := Bool.eq_false_iff.mpr c7
   subst c7
   have H1 : (if a0 < a1 then (some (-1)) else (if a0 > a1 then (some 1) else (some 0))) = some r := by rw [if_neg (show ¬ (false = true) by decide)] at H; exact H
   clear H
   have H := H1
   clear H1
   by_cases c8 : a0 < a1
   ·rw [if_pos c8] at H
    have c8b0 : decide (a0 < a1) = true := decide_eq_true c8
    clear c8
    obtain rfl := Option.some.inj H
    go_enter Tryz.func135, Tryz.ntmps135
    go_wp2_with (first | ((with_reducible refine gate_callee (f := 175) rfl ?_); refine goesL_ (some 8) rfl rfl Tryz.func175 (by kernel_rfl) rfl #[.int .i64 a0] rfl (by (try simp only [List.map_toArray, List.map_cons, List.map_nil]); first | done | rfl | (simp only [List.length_drop, List.length_take]; rfl)) ?_; (with_reducible refine (cmp_isNaN_int.calls a0 false _ A3.out).mono ?_); rintro e w' ⟨rfl, ⟨nd, rfl⟩⟩; refine ⟨_, rfl, ?_⟩) | ((with_reducible refine gate_callee (f := 175) rfl ?_); refine goesL_ (some 10) rfl rfl Tryz.func175 (by kernel_rfl) rfl #[.int .i64 a1] rfl (by (try simp only [List.map_toArray, List.map_cons, List.map_nil]); first | done | rfl | (simp only [List.length_drop, List.length_take]; rfl)) ?_; (with_reducible refine (cmp_isNaN_int.calls a1 false _ A4.out).mono ?_); rintro e w' ⟨rfl, ⟨nd, rfl⟩⟩; refine ⟨_, rfl, ?_⟩))
    go_ret
    exact ⟨by first | rfl | (simp; done) | (simp [*]; done), by repeat (first | exact Drawn0.refl _ | apply Drawn0.step)⟩
   ·rw [if_neg c8] at H
    have c8b0 : decide (a0 < a1) = false := decide_eq_false c8
    clear c8
    by_cases c9 : a0 > a1
    ·rw [if_pos c9] at H
     have c9b0 : decide (a1 < a0) = true := decide_eq_true c9
     clear c9
     obtain rfl := Option.some.inj H
     go_enter Tryz.func135, Tryz.ntmps135
     go_wp2_with (first | ((with_reducible refine gate_callee (f := 175) rfl ?_); refine goesL_ (some 8) rfl rfl Tryz.func175 (by kernel_rfl) rfl #[.int .i64 a0] rfl (by (try simp only [List.map_toArray, List.map_cons, List.map_nil]); first | done | rfl | (simp only [List.length_drop, List.length_take]; rfl)) ?_; (with_reducible refine (cmp_isNaN_int.calls a0 false _ A3.out).mono ?_); rintro e w' ⟨rfl, ⟨nd, rfl⟩⟩; refine ⟨_, rfl, ?_⟩) | ((with_reducible refine gate_callee (f := 175) rfl ?_); refine goesL_ (some 10) rfl rfl Tryz.func175 (by kernel_rfl) rfl #[.int .i64 a1] rfl (by (try simp only [List.map_toArray, List.map_cons, List.map_nil]); first | done | rfl | (simp only [List.length_drop, List.length_take]; rfl)) ?_; (with_reducible refine (cmp_isNaN_int.calls a1 false _ A4.out).mono ?_); rintro e w' ⟨rfl, ⟨nd, rfl⟩⟩; refine ⟨_, rfl, ?_⟩))
     go_ret
     exact ⟨by first | rfl | (simp; done) | (simp [*]; done), by repeat (first | exact Drawn0.refl _ | apply Drawn0.step)⟩
    ·rw [if_neg c9] at H
     have c9b0 : decide (a1 < a0) = false := decide_eq_false c9
     clear c9
     obtain rfl := Option.some.inj H
     go_enter Tryz.func135, Tryz.ntmps135
     go_wp2_with (first | ((with_reducible refine gate_callee (f := 175) rfl ?_); refine goesL_ (some 8) rfl rfl Tryz.func175 (by kernel_rfl) rfl #[.int .i64 a0] rfl (by (try simp only [List.map_toArray, List.map_cons, List.map_nil]); first | done | rfl | (simp only [List.length_drop, List.length_take]; rfl)) ?_; (with_reducible refine (cmp_isNaN_int.calls a0 false _ A3.out).mono ?_); rintro e w' ⟨rfl, ⟨nd, rfl⟩⟩; refine ⟨_, rfl, ?_⟩) | ((with_reducible refine gate_callee (f := 175) rfl ?_); refine goesL_ (some 10) rfl rfl Tryz.func175 (by kernel_rfl) rfl #[.int .i64 a1] rfl (by (try simp only [List.map_toArray, List.map_cons, List.map_nil]); first | done | rfl | (simp only [List.length_drop, List.length_take]; rfl)) ?_; (with_reducible refine (cmp_isNaN_int.calls a1 false _ A4.out).mono ?_); rintro e w' ⟨rfl, ⟨nd, rfl⟩⟩; refine ⟨_, rfl, ?_⟩))
     go_ret
     exact ⟨by first | rfl | (simp; done) | (simp [*]; done), by repeat (first | exact Drawn0.refl _ | apply Drawn0.step)⟩
end Go.Proofs.YtobdccgpbohpiaaGreatDoor.F
