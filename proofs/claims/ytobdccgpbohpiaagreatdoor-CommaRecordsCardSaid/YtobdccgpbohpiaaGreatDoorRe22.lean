/- Re: a part of the proof. -/
import Derived.Test.YtobdccgpbohpiaaGreatDoorRe13
import Derived.Test.YtobdccgpbohpiaaGreatDoorRe15
import Derived.Test.YtobdccgpbohpiaaGreatDoorRe19
import Derived.Test.YtobdccgpbohpiaaGreatDoorRe20
import Derived.Test.YtobdccgpbohpiaaGreatDoorRe21
namespace Go.Proofs.YtobdccgpbohpiaaGreatDoor.F
set_option maxHeartbeats 8000000
set_option maxRecDepth 100000
open Go.RowKit Go.Proofs.YtobdccgpbohpiaaGreatDoorW.PrintWords Go.Proofs.YtobdccgpbohpiaaGreatDoorW.PrintLast Go.Proofs.YtobdccgpbohpiaaGreatDoorW.PrintMore
attribute [local go_sem] max2_int min2_int max_two min_two max_three min_three max_four min_four
set_option linter.unusedVariables false
set_option linter.unusedSimpArgs false
mutual
def schismalaw16_list.l0 : Nat → ByteArray → ByteArray → List (List Int) → List (S47) → Int → List Int → Int → List Int → Option ((List (List Int)) × (List (S47)))
 | 0, _, _, _, _, _, _, _, _ => none
 | k + 1, x4, x5, x6, x7, x8, x345000, x345001, x345002 => if x8 ≤ x345001 then ((schismalaw16_exponents.f k x345000 x8).bind fun bt347 => (if bt347.2 = true then (schismalaw16_list.l1 k x4 x5 x6 x7 x8 bt347.1 1 x345000 x345001 x345002) else (schismalaw16_list.l0 k x4 x5 x6 x7 (wrap64 (x8 + 1)) x345000 x345001 x345002))) else (some (x6, x7))
def schismalaw16_list.l1 : Nat → ByteArray → ByteArray → List (List Int) → List (S47) → Int → List Int → Int → List Int → Int → List Int → Option ((List (List Int)) × (List (S47)))
 | 0, _, _, _, _, _, _, _, _, _, _ => none
 | k + 1, x4, x5, x6, x7, x8, x9, x11, x345000, x345001, x345002 => if x11 < x8 then ((schismalaw16_exponents.f k x345000 x11).bind fun bt351 => (if bt351.2 = true then ((schismalaw16_gcd.f k x8 x11).bind fun t355 => (if t355 = 1 then ((g_whole_Of.f x8).bind fun t356 => ((whole_Mul.f k t356 x5).bind fun t357 => ((g_whole_Of.f x11).bind fun t358 => ((whole_Mul.f k x4 t358).bind fun t359 => ((whole_Compare.f t357 t359).bind fun t360 => (schismalaw16_list.j2 k x4 x5 x6 x7 x8 x9 x11 bt351.1 (decide (t360 > 0)) x345000 x345001 x345002)))))) else (schismalaw16_list.j2 k x4 x5 x6 x7 x8 x9 x11 bt351.1 true x345000 x345001 x345002))) else (schismalaw16_list.j2 k x4 x5 x6 x7 x8 x9 x11 bt351.1 true x345000 x345001 x345002))) else (schismalaw16_list.l0 k x4 x5 x6 x7 (wrap64 (x8 + 1)) x345000 x345001 x345002)
def schismalaw16_list.j2 : Nat → ByteArray → ByteArray → List (List Int) → List (S47) → Int → List Int → Int → List Int → Bool → List Int → Int → List Int → Option ((List (List Int)) × (List (S47)))
 | 0, _, _, _, _, _, _, _, _, _, _, _, _ => none
 | k + 1, x4, x5, x6, x7, x8, x9, x11, x12, x70, x345000, x345001, x345002 => if x70 = true then (schismalaw16_list.l1 k x4 x5 x6 x7 x8 x9 (wrap64 (x11 + 1)) x345000 x345001 x345002) else (if 0 ≤ (x9.length : Int) then (if ((x9.length : Int) : Int).toNat ≤ 35184372088832 then (schismalaw16_list.l2 k x4 x5 x6 x7 x8 x9 x11 x12 (List.replicate ((x9.length : Int) : Int).toNat 0) 0 x345000 x345001 x345002) else (none)) else (none))
def schismalaw16_list.l2 : Nat → ByteArray → ByteArray → List (List Int) → List (S47) → Int → List Int → Int → List Int → List Int → Int → List Int → Int → List Int → Option ((List (List Int)) × (List (S47)))
 | 0, _, _, _, _, _, _, _, _, _, _, _, _, _ => none
 | k + 1, x4, x5, x6, x7, x8, x9, x11, x12, x14, x15, x345000, x345001, x345002 => if x15 < (x9.length : Int) then (if 0 ≤ x15 then (if x15 < (x12.length : Int) then (if x15 < (x14.length : Int) then (schismalaw16_list.l2 k x4 x5 x6 x7 x8 x9 x11 x12 (x14.set (x15 : Int).toNat (wrap64 ((rd x9 x15) - (rd x12 x15)))) (wrap64 (x15 + 1)) x345000 x345001 x345002) else (none)) else (none)) else (none)) else (if x6.length < 5864062014805 then (if x7.length < 8796093022208 then (schismalaw16_list.l1 k x4 x5 (x6 ++ [x14]) (x7 ++ [(⟨x8, x11⟩ : S47)]) x8 x9 (wrap64 (x11 + 1)) x345000 x345001 x345002) else (none)) else (none))
end
def schismalaw16_list.f (k : Nat) (l0_0 : List Int) (a0_1 : Int) (l0_2 : List Int) : Option ((List (List Int)) × (List (S47))) := (schismalaw12_Value.f k l0_0 l0_2).bind fun bt345 => (schismalaw16_list.l0 k bt345.1 bt345.2 ([] : List (List Int)) ([] : List (S47)) 2 l0_0 a0_1 l0_2)
theorem schismalaw16_list.mono_l : ∀ k, (∀ y0 y1 y2 y3 y4 y5 y6 y7, LeO (schismalaw16_list.l0 k y0 y1 y2 y3 y4 y5 y6 y7) (schismalaw16_list.l0 (k + 1) y0 y1 y2 y3 y4 y5 y6 y7)) ∧ (∀ y0 y1 y2 y3 y4 y5 y6 y7 y8 y9, LeO (schismalaw16_list.l1 k y0 y1 y2 y3 y4 y5 y6 y7 y8 y9) (schismalaw16_list.l1 (k + 1) y0 y1 y2 y3 y4 y5 y6 y7 y8 y9)) ∧ (∀ y0 y1 y2 y3 y4 y5 y6 y7 y8 y9 y10 y11, LeO (schismalaw16_list.j2 k y0 y1 y2 y3 y4 y5 y6 y7 y8 y9 y10 y11) (schismalaw16_list.j2 (k + 1) y0 y1 y2 y3 y4 y5 y6 y7 y8 y9 y10 y11)) ∧ (∀ y0 y1 y2 y3 y4 y5 y6 y7 y8 y9 y10 y11 y12, LeO (schismalaw16_list.l2 k y0 y1 y2 y3 y4 y5 y6 y7 y8 y9 y10 y11 y12) (schismalaw16_list.l2 (k + 1) y0 y1 y2 y3 y4 y5 y6 y7 y8 y9 y10 y11 y12))
 | 0 => ⟨fun _ _ _ _ _ _ _ _ r h => by simp [schismalaw16_list.l0] at h, fun _ _ _ _ _ _ _ _ _ _ r h => by simp [schismalaw16_list.l1] at h, fun _ _ _ _ _ _ _ _ _ _ _ _ r h => by simp [schismalaw16_list.j2] at h, fun _ _ _ _ _ _ _ _ _ _ _ _ _ r h => by simp [schismalaw16_list.l2] at h⟩
 | k + 1 => by
  obtain ⟨ih0, ih1, ih2, ih3⟩ := schismalaw16_list.mono_l k
  refine ⟨?_, ?_, ?_, ?_⟩
  ·intro y0 y1 y2 y3 y4 y5 y6 y7
   unfold schismalaw16_list.l0
   repeat' first
   | (with_reducible exact ih0 _ _ _ _ _ _ _ _)
   | (with_reducible exact ih1 _ _ _ _ _ _ _ _ _ _)
   | (with_reducible exact ih2 _ _ _ _ _ _ _ _ _ _ _ _)
   | (with_reducible exact ih3 _ _ _ _ _ _ _ _ _ _ _ _ _)
   | with_reducible apply schismalaw12_Value.mono
   | with_reducible apply schismalaw16_exponents.mono
   | with_reducible apply schismalaw16_gcd.mono
   | with_reducible apply whole_Mul.mono
   | (with_reducible exact LeO.refl _)
   | (with_reducible exact LeO.none _)
   | (with_reducible refine LeO.ite ?_ ?_)
   | (with_reducible refine LeO.bind ?_ (fun _ => ?_))
   | refine LeO.ite ?_ ?_
   | refine LeO.bind ?_ (fun _ => ?_)
  ·intro y0 y1 y2 y3 y4 y5 y6 y7 y8 y9
   unfold schismalaw16_list.l1
   repeat' first
   | (with_reducible exact ih0 _ _ _ _ _ _ _ _)
   | (with_reducible exact ih1 _ _ _ _ _ _ _ _ _ _)
   | (with_reducible exact ih2 _ _ _ _ _ _ _ _ _ _ _ _)
   | (with_reducible exact ih3 _ _ _ _ _ _ _ _ _ _ _ _ _)
   | with_reducible apply schismalaw12_Value.mono
   | with_reducible apply schismalaw16_exponents.mono
   | with_reducible apply schismalaw16_gcd.mono
   | with_reducible apply whole_Mul.mono
   | (with_reducible exact LeO.refl _)
   | (with_reducible exact LeO.none _)
   | (with_reducible refine LeO.ite ?_ ?_)
   | (with_reducible refine LeO.bind ?_ (fun _ => ?_))
   | refine LeO.ite ?_ ?_
   | refine LeO.bind ?_ (fun _ => ?_)
  ·intro y0 y1 y2 y3 y4 y5 y6 y7 y8 y9 y10 y11
   unfold schismalaw16_list.j2
   repeat' first
   | (with_reducible exact ih0 _ _ _ _ _ _ _ _)
   | (with_reducible exact ih1 _ _ _ _ _ _ _ _ _ _)
   | (with_reducible exact ih2 _ _ _ _ _ _ _ _ _ _ _ _)
   | (with_reducible exact ih3 _ _ _ _ _ _ _ _ _ _ _ _ _)
   | with_reducible apply schismalaw12_Value.mono
   | with_reducible apply schismalaw16_exponents.mono
   | with_reducible apply schismalaw16_gcd.mono
   | with_reducible apply whole_Mul.mono
   | (with_reducible exact LeO.refl _)
   | (with_reducible exact LeO.none _)
   | (with_reducible refine LeO.ite ?_ ?_)
   | (with_reducible refine LeO.bind ?_ (fun _ => ?_))
   | refine LeO.ite ?_ ?_
   | refine LeO.bind ?_ (fun _ => ?_)
  ·intro y0 y1 y2 y3 y4 y5 y6 y7 y8 y9 y10 y11 y12
   unfold schismalaw16_list.l2
   repeat' first
   | (with_reducible exact ih0 _ _ _ _ _ _ _ _)
   | (with_reducible exact ih1 _ _ _ _ _ _ _ _ _ _)
   | (with_reducible exact ih2 _ _ _ _ _ _ _ _ _ _ _ _)
   | (with_reducible exact ih3 _ _ _ _ _ _ _ _ _ _ _ _ _)
   | with_reducible apply schismalaw12_Value.mono
   | with_reducible apply schismalaw16_exponents.mono
   | with_reducible apply schismalaw16_gcd.mono
   | with_reducible apply whole_Mul.mono
   | (with_reducible exact LeO.refl _)
   | (with_reducible exact LeO.none _)
   | (with_reducible refine LeO.ite ?_ ?_)
   | (with_reducible refine LeO.bind ?_ (fun _ => ?_))
   | refine LeO.ite ?_ ?_
   | refine LeO.bind ?_ (fun _ => ?_)
theorem schismalaw16_list.mono : ∀ a0 a1 a2 k, LeO (schismalaw16_list.f k a0 a1 a2) (schismalaw16_list.f (k + 1) a0 a1 a2) := by
 intro a0 a1 a2 k
 obtain ⟨ih0, ih1, ih2, ih3⟩ := schismalaw16_list.mono_l k
 unfold schismalaw16_list.f
 repeat' first
   | (with_reducible exact ih0 _ _ _ _ _ _ _ _)
   | (with_reducible exact ih1 _ _ _ _ _ _ _ _ _ _)
   | (with_reducible exact ih2 _ _ _ _ _ _ _ _ _ _ _ _)
   | (with_reducible exact ih3 _ _ _ _ _ _ _ _ _ _ _ _ _)
   | with_reducible apply schismalaw12_Value.mono
   | with_reducible apply schismalaw16_exponents.mono
   | with_reducible apply schismalaw16_gcd.mono
   | with_reducible apply whole_Mul.mono
   | (with_reducible exact LeO.refl _)
   | (with_reducible exact LeO.none _)
   | (with_reducible refine LeO.ite ?_ ?_)
   | (with_reducible refine LeO.bind ?_ (fun _ => ?_))
   | refine LeO.ite ?_ ?_
   | refine LeO.bind ?_ (fun _ => ?_)
def schismalaw16_list.T18 : Bool × List (List Nat × List Nat) := (true, [([], []), ([], []), ([], []), ([], []), ([2, 3], [2, 3]), ([4], [4]), ([], []), ([], []), ([6, 7], [6, 7]), ([8], [8]), ([5, 9], [5, 9]), ([0, 1, 0, 1, 2, 3, 4, 5, 6, 7, 8, 9, 10], [0, 1]), ([11, 10, 0, 1, 2, 3, 4, 5, 6, 7, 8, 9, 10], [10, 11])])
def schismalaw16_list.B18 : List Nat := [0, 0, 0, 0, 12, 28, 0, 0, 192, 448, 1020, 2047, 4095]
theorem schismalaw16_list.tab18 : rtab .any (opsOf Tryz.f15 18) = schismalaw16_list.T18 := by kernel_rfl
theorem schismalaw16_list.bits18 : waitsOk schismalaw16_list.T18.2 schismalaw16_list.B18 = true := by kernel_rfl
theorem schismalaw16_list.calls (k : Nat) (A0_0 : Option Addr) (c0_0 : Nat) (l0_0 : List Int) (a0_1 : Int) (A0_2 : Option Addr) (c0_2 : Nat) (l0_2 : List Int) (r1 : List (List Int)) (r2 : List (S47)) (w : World) (hG : Glob w) (hr0_0 : Kd.C (Kd.int .i64) w A0_0 l0_0.length l0_0) (hc0_0 : l0_0.length ≤ c0_0) (hr0_2 : Kd.C (Kd.int .i64) w A0_2 l0_2.length l0_2) (hc0_2 : l0_2.length ≤ c0_2) (h : schismalaw16_list.f k l0_0 a0_1 l0_2 = some (r1, r2)) :
  Calls Tryz.prog 15 #[.agg #[.slice A0_0 l0_0.length c0_0, .int .i64 a0_1, .slice A0_2 l0_2.length c0_2]] w fun e w' => ∃ v0_ v1_ : Value, e = .returned (.tuple #[v0_, v1_]) ∧ Kd.S (Kd.slice 3 (Kd.int .i64)) 30 w' w.heap.size (fun _ => True) v0_ r1 ∧ Kd.R k47 47 w' w.heap.size (fun _ => True) v1_ r2 ∧ Below w.heap.size w w' := by
 have hu32 := Tryz.underlying32
 have hu47 := Tryz.underlying47
 have HG := Aside0.mk hG
 clear hG
 have HR0_0 := Aside0.mk hr0_0
 have HC0_0 := Aside0.mk hc0_0
 clear hr0_0 hc0_0
 have HR0_2 := Aside0.mk hr0_2
 have HC0_2 := Aside0.mk hc0_2
 clear hr0_2 hc0_2
 have HB := Aside0.mk (Below.refl w.heap.size w)
 have H : ((schismalaw12_Value.f k l0_0 l0_2).bind fun bt345 => (schismalaw16_list.l0 k bt345.1 bt345.2 ([] : List (List Int)) ([] : List (S47)) 2 l0_0 a0_1 l0_2)) = some (r1, r2) := h
 clear h
 replace H := Option.bind_eq_some_iff.mp H
 obtain ⟨⟨t345, t346⟩, A20, H⟩ := H
 replace H : (schismalaw16_list.l0 k t345 t346 ([] : List (List Int)) ([] : List (S47)) 2 l0_0 a0_1 l0_2) = some (r1, r2) := H
 have A2 := Aside0.mk A20
 clear A20
 have H' := Aside0.mk H
 clear H
 go_enter Tryz.func15, Tryz.ntmps15
 go_wp2_with (first | ((with_reducible refine gate_dst (N := 1) rfl ?_); refine box_event ?hg (N := 1) ?hd (cs := #[.slice A0_0 l0_0.length c0_0, .int .i64 a0_1, .slice A0_2 l0_2.length c0_2]) (t := 32) ?hr ?_; (case hd => rfl); (case hg => rfl); (case hr => first | (go_simp; done) | (go_simp; rfl)); intro gb344 hg w3 hbox hb; have n0_ := Aside0.mk (below_step (by with_reducible repeat first | exact HB.out | apply below_alloc | apply pw_below_drewN | apply below_drew1) hb); have n1_ := Aside0.mk (hbox); have n2_ := Aside0.mk ((by rw [hg]; exact (below_size (by with_reducible repeat first | exact HB.out | apply below_alloc | apply pw_below_drewN | apply below_drew1)) : w.heap.size ≤ gb344)); have n3_ := Aside0.mk ((by rw [hg]; exact (below_size (by with_reducible repeat first | exact HB.out | apply below_alloc | apply pw_below_drewN | apply below_drew1)) : w.heap.size ≤ gb344)); clear HB; have HB := n0_; have BK344 := n1_; have GW344 := n2_; have GE344 := n3_; clear n0_ n1_ n2_ n3_; clear hb hbox hg; have hcz4_0 : w3.cell? ⟨gb344, 0, none⟩ = some (.slice A0_0 l0_0.length c0_0) := (blk_cell BK344.out 0).trans rfl; have hcz4_1 : w3.cell? ⟨gb344, 1, none⟩ = some (.int .i64 a0_1) := (blk_cell BK344.out 1).trans rfl; have hcz4_2 : w3.cell? ⟨gb344, 2, none⟩ = some (.slice A0_2 l0_2.length c0_2) := (blk_cell BK344.out 2).trans rfl; have hfz4_0 := blk_frozen BK344.out 0; have hfz4_1 := blk_frozen BK344.out 1; have hfz4_2 := blk_frozen BK344.out 2) | ((with_reducible refine gate_callee (f := 36) rfl ?_); refine goesL_ (some 21) rfl rfl Tryz.func36 (by kernel_rfl) rfl #[.slice A0_0 l0_0.length c0_0, .slice A0_2 l0_2.length c0_2] rfl (by (try simp only [List.map_toArray, List.map_cons, List.map_nil]); first | done | rfl | (simp only [List.length_drop, List.length_take]; rfl)) ?_; (with_reducible refine (schismalaw12_Value.calls k _ _ l0_0 _ _ l0_2 t345 t346 _ ?side1 ?side2 ?side3 ?side4 ?side5 A2.out).mono ?_); (case side1 => exact Glob.below HG.out (by repeat (first | (with_reducible first | exact HB.out | apply below_alloc | apply pw_below_drewN | apply below_drew1 | refine below_set ?_ GE344.out) | exact HB.out))); (case side2 => repeat (first | exact (Kd.C_below HR0_0.out HB.out) | (with_reducible refine Kd.C_alloc ?_ _) | (with_reducible refine Kd.C_drewN ?_ _) | (with_reducible refine Kd.C_drew ?_))); (case side3 => exact HC0_0.out); (case side4 => repeat (first | exact (Kd.C_below HR0_2.out HB.out) | (with_reducible refine Kd.C_alloc ?_ _) | (with_reducible refine Kd.C_drewN ?_ _) | (with_reducible refine Kd.C_drew ?_))); (case side5 => exact HC0_2.out); rintro e w5 ⟨rfl, hb⟩; refine ⟨_, rfl, ?_⟩; have n0_ := Aside0.mk (blk_below (g := gb344) (o := .cells #[.slice A0_0 l0_0.length c0_0, .int .i64 a0_1, .slice A0_2 l0_2.length c0_2] 32 (0, 0)) (by (with_reducible repeat (first | refine blk_drewN ?_ _ | refine blk_drew ?_ | refine blk_alloc ?_ _)); exact BK344.out) hb); have n1_ := Aside0.mk (below_step (by repeat (first | (with_reducible first | exact HB.out | apply below_alloc | apply pw_below_drewN | apply below_drew1 | refine below_set ?_ GE344.out) | exact HB.out)) hb); clear BK344; clear HB; have BK344 := n0_; have HB := n1_; clear n0_ n1_; (try clear hb); (try clear hb2); (try clear hk); (try clear hi)))
 go_loopg [6, 7, 8] k (fun kq v6 v7 v8 w' => ∃ (x6_1 : List (List Int)) (x7_1 : List (S47)) (x8_1 : Int), v8 = .int .i64 x8_1 ∧ Aside0 (schismalaw16_list.l0 kq t345 t346 x6_1 x7_1 x8_1 l0_0 a0_1 l0_2 = some (r1, r2)) ∧ Aside0 (kq ≤ k) ∧ Aside0 (Kd.S (Kd.slice 3 (Kd.int .i64)) 30 w' w.heap.size (fun _ => True) v6 x6_1) ∧ Aside0 (Kd.R k47 47 w' w.heap.size (fun _ => True) v7 x7_1) ∧ Aside0 (w'.heap[gb344]? = some (.cells #[(.slice A0_0 l0_0.length c0_0), .int .i64 a0_1, (.slice A0_2 l0_2.length c0_2)] 32 (0, 0))) ∧ Aside0 (Below w.heap.size w w'))
 case atStart => exact ⟨(([] : List (List Int))), (([] : List (S47))), (2), (by first | rfl | (simp; done) | (simp [*]; done)), H', ⟨Nat.le_refl _⟩, ⟨by first | exact Kd.S_nil _ _ _ _ _ | exact Kd.N_nil _ _ _ _ _ | exact Kd.V_nil _ _ _ _ _ | exact Kd.Q_nil _ _ _ _ _ | exact Kd.R_nil _ _ _ _ _⟩, ⟨by first | exact Kd.R_nil _ _ _ _ _ | exact Kd.N_nil _ _ _ _ _ | exact Kd.V_nil _ _ _ _ _ | exact Kd.Q_nil _ _ _ _ _ | exact Kd.S_nil _ _ _ _ _⟩, ⟨by (with_reducible repeat (first | refine blk_drewN ?_ _ | refine blk_drew ?_ | refine blk_alloc ?_ _)); exact BK344.out⟩, ⟨by repeat (first | (with_reducible first | exact HB.out | apply below_alloc | apply pw_below_drewN | apply below_drew1 | refine below_set ?_ GE344.out) | exact HB.out)⟩⟩
 case round =>
  clear H'
  try clear c1
  try clear p2
  try clear c3
  try clear hcz4_0
  try clear hcz4_1
  try clear hcz4_2
  try clear hfz4_0
  try clear hfz4_1
  try clear hfz4_2
  obtain ⟨x6_1, x7_1, x8_1, rfl, HA, HK1, HO_6, HO_7, BK344, HB⟩ := hrel
  cases gk with
  | zero => exact absurd HA.out (by simp [schismalaw16_list.l0])
  | succ k1 =>
   have H := HA.out
   clear HA
   simp only [schismalaw16_list.l0] at H
   by_cases c6 : x8_1 ≤ a0_1
   ·rw [if_pos c6] at H
    have c6b0 : decide (x8_1 ≤ a0_1) = true := decide_eq_true c6
    clear c6
    replace H := Option.bind_eq_some_iff.mp H
    obtain ⟨⟨t347, t348⟩, A70, H⟩ := H
    replace H : (if t348 = true then (schismalaw16_list.l1 k1 t345 t346 x6_1 x7_1 x8_1 t347 1 l0_0 a0_1 l0_2) else (schismalaw16_list.l0 k1 t345 t346 x6_1 x7_1 (wrap64 (x8_1 + 1)) l0_0 a0_1 l0_2)) = some (r1, r2) := H
    have A7 := Aside0.mk A70
    clear A70
    by_cases c8 : t348 = true
    ·subst c8
     have H1 : (schismalaw16_list.l1 k1 t345 t346 x6_1 x7_1 x8_1 t347 1 l0_0 a0_1 l0_2) = some (r1, r2) := by rw [if_pos rfl] at H; exact H
     clear H
     have H := H1
     clear H1
     have H' := Aside0.mk H
     clear H
     have hcz9_0 : wr.cell? ⟨gb344, 0, none⟩ = some (.slice A0_0 l0_0.length c0_0) := (blk_cell BK344.out 0).trans rfl
     have hcz9_1 : wr.cell? ⟨gb344, 1, none⟩ = some (.int .i64 a0_1) := (blk_cell BK344.out 1).trans rfl
     have hcz9_2 : wr.cell? ⟨gb344, 2, none⟩ = some (.slice A0_2 l0_2.length c0_2) := (blk_cell BK344.out 2).trans rfl
     have hfz9_0 := blk_frozen BK344.out 0
     have hfz9_1 := blk_frozen BK344.out 1
     have hfz9_2 := blk_frozen BK344.out 2
     go_wp2_with (first | ((with_reducible refine gate_callee (f := 45) rfl ?_); refine goesL_ (some 34) rfl rfl Tryz.func45 (by kernel_rfl) rfl #[.slice A0_0 l0_0.length c0_0, .int .i64 x8_1] rfl (by (try simp only [List.map_toArray, List.map_cons, List.map_nil]); first | done | rfl | (simp only [List.length_drop, List.length_take]; rfl)) ?_; (with_reducible refine (schismalaw16_exponents.calls k1 _ _ l0_0 x8_1 t347 true _ ?side1 ?side2 A7.out).mono ?_); (case side1 => repeat (first | exact (Kd.C_below HR0_0.out HB.out) | (with_reducible refine Kd.C_alloc ?_ _) | (with_reducible refine Kd.C_drewN ?_ _) | (with_reducible refine Kd.C_drew ?_))); (case side2 => exact HC0_0.out); rintro e w10 ⟨v349, rfl, ho0, hb⟩; refine ⟨_, rfl, ?_⟩; have n0_ := Aside0.mk (Kd.S_elder' (by (with_reducible repeat (first | apply Kd.S_alloc | apply Kd.S_drewN | apply Kd.S_drew)); exact HO_6.out) (Kd.R_base ho0) hb); have n1_ := Aside0.mk (Kd.R_below (by (with_reducible repeat (first | apply Kd.R_alloc | apply Kd.R_drewN | apply Kd.R_drew)); exact HO_7.out) hb); have n2_ := Aside0.mk (Kd.R_lower ho0 (below_size (by repeat (first | (with_reducible first | exact HB.out | apply below_alloc | apply pw_below_drewN | apply below_drew1 | refine below_set ?_ GE344.out) | exact HB.out)))); have n3_ := Aside0.mk (blk_below (g := gb344) (o := .cells #[.slice A0_0 l0_0.length c0_0, .int .i64 a0_1, .slice A0_2 l0_2.length c0_2] 32 (0, 0)) (by (with_reducible repeat (first | refine blk_drewN ?_ _ | refine blk_drew ?_ | refine blk_alloc ?_ _)); exact BK344.out) hb); have n4_ := Aside0.mk (below_step (by repeat (first | (with_reducible first | exact HB.out | apply below_alloc | apply pw_below_drewN | apply below_drew1 | refine below_set ?_ GE344.out) | exact HB.out)) hb); clear HO_6; clear HO_7; clear BK344; clear HB; have HO_6 := n0_; have HO_7 := n1_; have HO350 := n2_; have BK344 := n3_; have HB := n4_; clear n0_ n1_ n2_ n3_ n4_; (try clear hb); (try clear hb2); (try clear hk); (try clear hi); (try clear ho0)))
     go_loopg [6, 7, 11] k1 (fun kq v6 v7 v11 w' => ∃ (x6_2 : List (List Int)) (x7_2 : List (S47)) (x9_2 : List Int) (x11_2 : Int), v11 = .int .i64 x11_2 ∧ Aside0 (schismalaw16_list.l1 kq t345 t346 x6_2 x7_2 x8_1 x9_2 x11_2 l0_0 a0_1 l0_2 = some (r1, r2)) ∧ Aside0 (kq ≤ k1) ∧ Aside0 (Kd.S (Kd.slice 3 (Kd.int .i64)) 30 w' w.heap.size (fun k_ => some k_ ≠ (v349 : Value).ownBlock) v6 x6_2) ∧ Aside0 (Kd.R k47 47 w' w.heap.size (fun _ => True) v7 x7_2) ∧ Aside0 (Kd.R (Kd.int .i64) 3 w' w.heap.size (fun _ => True) v349 x9_2) ∧ Aside0 (w'.heap[gb344]? = some (.cells #[(.slice A0_0 l0_0.length c0_0), .int .i64 a0_1, (.slice A0_2 l0_2.length c0_2)] 32 (0, 0))) ∧ Aside0 (Below w.heap.size w w'))
     case atStart => exact ⟨(x6_1), (x7_1), (t347), (1), (by first | rfl | (simp; done) | (simp [*]; done)), H', ⟨Nat.le_refl _⟩, ⟨by (with_reducible repeat (first | apply Kd.S_alloc | apply Kd.S_drewN | apply Kd.S_drew)); exact Kd.S_mono HO_6.out (fun _ hk => hk.2)⟩, ⟨by (with_reducible repeat (first | apply Kd.R_alloc | apply Kd.R_drewN | apply Kd.R_drew)); exact HO_7.out⟩, ⟨by (with_reducible repeat (first | apply Kd.R_alloc | apply Kd.R_drewN | apply Kd.R_drew)); exact HO350.out⟩, ⟨by (with_reducible repeat (first | refine blk_drewN ?_ _ | refine blk_drew ?_ | refine blk_alloc ?_ _)); exact BK344.out⟩, ⟨by repeat (first | (with_reducible first | exact HB.out | apply below_alloc | apply pw_below_drewN | apply below_drew1 | refine below_set ?_ GE344.out) | exact HB.out)⟩⟩
     case round =>
      clear H'
      try clear c1
      try clear p2
      try clear c3
      try clear c4
      try clear c6
      try clear c6b0
      try clear p6
      try clear c8
      try clear hcz4_0
      try clear hcz4_1
      try clear hcz4_2
      try clear hcz9_0
      try clear hcz9_1
      try clear hcz9_2
      try clear hfz4_0
      try clear hfz4_1
      try clear hfz4_2
      try clear hfz9_0
      try clear hfz9_1
      try clear hfz9_2
      try clear p2
      obtain ⟨x6_2, x7_2, x9_2, x11_2, rfl, HA, HK2, HO_6, HO_7, HO_9, BK344, HB⟩ := hrel
      cases gk with
      | zero => exact absurd HA.out (by simp [schismalaw16_list.l1])
      | succ k2 =>
       have H := HA.out
       clear HA
       simp only [schismalaw16_list.l1] at H
       by_cases c11 : x11_2 < x8_1
       ·rw [if_pos c11] at H
        have c11b0 : decide (x11_2 < x8_1) = true := decide_eq_true c11
        clear c11
        replace H := Option.bind_eq_some_iff.mp H
        obtain ⟨⟨t351, t352⟩, A120, H⟩ := H
        replace H : (if t352 = true then ((schismalaw16_gcd.f k2 x8_1 x11_2).bind fun t355 => (if t355 = 1 then ((g_whole_Of.f x8_1).bind fun t356 => ((whole_Mul.f k2 t356 t346).bind fun t357 => ((g_whole_Of.f x11_2).bind fun t358 => ((whole_Mul.f k2 t345 t358).bind fun t359 => ((whole_Compare.f t357 t359).bind fun t360 => (schismalaw16_list.j2 k2 t345 t346 x6_2 x7_2 x8_1 x9_2 x11_2 t351 (decide (t360 > 0)) l0_0 a0_1 l0_2)))))) else (schismalaw16_list.j2 k2 t345 t346 x6_2 x7_2 x8_1 x9_2 x11_2 t351 true l0_0 a0_1 l0_2))) else (schismalaw16_list.j2 k2 t345 t346 x6_2 x7_2 x8_1 x9_2 x11_2 t351 true l0_0 a0_1 l0_2)) = some (r1, r2) := H
        have A12 := Aside0.mk A120
        clear A120
        have HC13 := Aside0.mk H
        clear H
        have hcz14_0 : wr.cell? ⟨gb344, 0, none⟩ = some (.slice A0_0 l0_0.length c0_0) := (blk_cell BK344.out 0).trans rfl
        have hcz14_1 : wr.cell? ⟨gb344, 1, none⟩ = some (.int .i64 a0_1) := (blk_cell BK344.out 1).trans rfl
        have hcz14_2 : wr.cell? ⟨gb344, 2, none⟩ = some (.slice A0_2 l0_2.length c0_2) := (blk_cell BK344.out 2).trans rfl
        have hfz14_0 := blk_frozen BK344.out 0
        have hfz14_1 := blk_frozen BK344.out 1
        have hfz14_2 := blk_frozen BK344.out 2
        go_upto_region 13 with (first | ((with_reducible refine gate_callee (f := 45) rfl ?_); refine goesL_ (some 48) rfl rfl Tryz.func45 (by kernel_rfl) rfl #[.slice A0_0 l0_0.length c0_0, .int .i64 x11_2] rfl (by (try simp only [List.map_toArray, List.map_cons, List.map_nil]); first | done | rfl | (simp only [List.length_drop, List.length_take]; rfl)) ?_; (with_reducible refine (schismalaw16_exponents.calls k2 _ _ l0_0 x11_2 t351 t352 _ ?side1 ?side2 A12.out).mono ?_); (case side1 => repeat (first | exact (Kd.C_below HR0_0.out HB.out) | (with_reducible refine Kd.C_alloc ?_ _) | (with_reducible refine Kd.C_drewN ?_ _) | (with_reducible refine Kd.C_drew ?_))); (case side2 => exact HC0_0.out); rintro e w15 ⟨v353, rfl, ho0, hb⟩; refine ⟨_, rfl, ?_⟩; have n0_ := Aside0.mk (Kd.S_elder' (by (with_reducible repeat (first | apply Kd.S_alloc | apply Kd.S_drewN | apply Kd.S_drew)); exact HO_6.out) (Kd.R_base ho0) hb); have n1_ := Aside0.mk (Kd.R_below (by (with_reducible repeat (first | apply Kd.R_alloc | apply Kd.R_drewN | apply Kd.R_drew)); exact HO_7.out) hb); have n2_ := Aside0.mk (Kd.R_elder' (by (with_reducible repeat (first | apply Kd.R_alloc | apply Kd.R_drewN | apply Kd.R_drew)); exact HO_9.out) (Kd.R_base ho0) hb); have n3_ := Aside0.mk (Kd.R_lower (Kd.R_new' ho0 (Kd.R_lt (by (with_reducible repeat (first | apply Kd.R_alloc | apply Kd.R_drewN | apply Kd.R_drew)); exact HO_9.out))) (below_size (by repeat (first | (with_reducible first | exact HB.out | apply below_alloc | apply pw_below_drewN | apply below_drew1 | refine below_set ?_ GE344.out) | exact HB.out)))); have n4_ := Aside0.mk (blk_below (g := gb344) (o := .cells #[.slice A0_0 l0_0.length c0_0, .int .i64 a0_1, .slice A0_2 l0_2.length c0_2] 32 (0, 0)) (by (with_reducible repeat (first | refine blk_drewN ?_ _ | refine blk_drew ?_ | refine blk_alloc ?_ _)); exact BK344.out) hb); have n5_ := Aside0.mk (below_step (by repeat (first | (with_reducible first | exact HB.out | apply below_alloc | apply pw_below_drewN | apply below_drew1 | refine below_set ?_ GE344.out) | exact HB.out)) hb); clear HO_6; clear HO_7; clear HO_9; clear BK344; clear HB; have HO_6 := n0_; have HO_7 := n1_; have HO_9 := n2_; have HO354 := n3_; have BK344 := n4_; have HB := n5_; clear n0_ n1_ n2_ n3_ n4_ n5_; (try clear hb); (try clear hb2); (try clear hk); (try clear hi); (try clear ho0)))
        (try simp only [Act.put, List.setIfInBounds_toArray, List.set_cons_zero, List.set_cons_succ])
        go_cut [70] (fun v70 wc => ∃ (kq : Nat) (x70_12 : Bool), v70 = .bool x70_12 ∧ Aside0 (schismalaw16_list.j2 kq t345 t346 x6_2 x7_2 x8_1 x9_2 x11_2 t351 x70_12 l0_0 a0_1 l0_2 = some (r1, r2)) ∧ Aside0 (kq ≤ k2) ∧ Aside0 (Kd.S (Kd.slice 3 (Kd.int .i64)) 30 wc w.heap.size (fun k_ => some k_ ≠ (v349 : Value).ownBlock ∧ some k_ ≠ (v353 : Value).ownBlock) u6 x6_2) ∧ Aside0 (Kd.R k47 47 wc w.heap.size (fun _ => True) u7 x7_2) ∧ Aside0 (Kd.R (Kd.int .i64) 3 wc w.heap.size (fun k_ => some k_ ≠ (v353 : Value).ownBlock) v349 x9_2) ∧ Aside0 (Kd.R (Kd.int .i64) 3 wc w.heap.size (fun k_ => some k_ ≠ (v349 : Value).ownBlock) v353 t351) ∧ Aside0 (wc.heap[gb344]? = some (.cells #[(.slice A0_0 l0_0.length c0_0), .int .i64 a0_1, (.slice A0_2 l0_2.length c0_2)] 32 (0, 0))) ∧ Aside0 (Below w.heap.size w wc))
        case first =>
         have H := HC13.out
         clear HC13
         by_cases c16 : t352 = true
         ·subst c16
          have H1 : ((schismalaw16_gcd.f k2 x8_1 x11_2).bind fun t355 => (if t355 = 1 then ((g_whole_Of.f x8_1).bind fun t356 => ((whole_Mul.f k2 t356 t346).bind fun t357 => ((g_whole_Of.f x11_2).bind fun t358 => ((whole_Mul.f k2 t345 t358).bind fun t359 => ((whole_Compare.f t357 t359).bind fun t360 => (schismalaw16_list.j2 k2 t345 t346 x6_2 x7_2 x8_1 x9_2 x11_2 t351 (decide (t360 > 0)) l0_0 a0_1 l0_2)))))) else (schismalaw16_list.j2 k2 t345 t346 x6_2 x7_2 x8_1 x9_2 x11_2 t351 true l0_0 a0_1 l0_2))) = some (r1, r2) := by rw [if_pos rfl] at H; exact H
          clear H
          have H := H1
          clear H1
          replace H := Option.bind_eq_some_iff.mp H
          obtain ⟨t355, A170, H⟩ := H
          replace H : (if t355 = 1 then ((g_whole_Of.f x8_1).bind fun t356 => ((whole_Mul.f k2 t356 t346).bind fun t357 => ((g_whole_Of.f x11_2).bind fun t358 => ((whole_Mul.f k2 t345 t358).bind fun t359 => ((whole_Compare.f t357 t359).bind fun t360 => (schismalaw16_list.j2 k2 t345 t346 x6_2 x7_2 x8_1 x9_2 x11_2 t351 (decide (t360 > 0)) l0_0 a0_1 l0_2)))))) else (schismalaw16_list.j2 k2 t345 t346 x6_2 x7_2 x8_1 x9_2 x11_2 t351 true l0_0 a0_1 l0_2)) = some (r1, r2) := H
          have A17 := Aside0.mk A170
          clear A170
          by_cases c18 : t355 = 1
          ·rw [if_pos c18] at H
           have c18b0 : (t355 == 1) = true := beq_iff_eq.mpr c18
           have c18b1 : (t355 != 1) = false := bne_eq_false_iff_eq.mpr c18
           clear c18
           (first | rw [c18b0] | (simp only [i64_w, i32_w]; rw [c18b0]) | skip)
           replace H := Option.bind_eq_some_iff.mp H
           obtain ⟨t356, A190, H⟩ := H
           replace H : ((whole_Mul.f k2 t356 t346).bind fun t357 => ((g_whole_Of.f x11_2).bind fun t358 => ((whole_Mul.f k2 t345 t358).bind fun t359 => ((whole_Compare.f t357 t359).bind fun t360 => (schismalaw16_list.j2 k2 t345 t346 x6_2 x7_2 x8_1 x9_2 x11_2 t351 (decide (t360 > 0)) l0_0 a0_1 l0_2))))) = some (r1, r2) := H
           have A19 := Aside0.mk A190
           clear A190
           replace H := Option.bind_eq_some_iff.mp H
           obtain ⟨t357, A200, H⟩ := H
           replace H : ((g_whole_Of.f x11_2).bind fun t358 => ((whole_Mul.f k2 t345 t358).bind fun t359 => ((whole_Compare.f t357 t359).bind fun t360 => (schismalaw16_list.j2 k2 t345 t346 x6_2 x7_2 x8_1 x9_2 x11_2 t351 (decide (t360 > 0)) l0_0 a0_1 l0_2)))) = some (r1, r2) := H
           have A20 := Aside0.mk A200
           clear A200
           replace H := Option.bind_eq_some_iff.mp H
           obtain ⟨t358, A210, H⟩ := H
           replace H : ((whole_Mul.f k2 t345 t358).bind fun t359 => ((whole_Compare.f t357 t359).bind fun t360 => (schismalaw16_list.j2 k2 t345 t346 x6_2 x7_2 x8_1 x9_2 x11_2 t351 (decide (t360 > 0)) l0_0 a0_1 l0_2))) = some (r1, r2) := H
           have A21 := Aside0.mk A210
           clear A210
           replace H := Option.bind_eq_some_iff.mp H
           obtain ⟨t359, A220, H⟩ := H
           replace H : ((whole_Compare.f t357 t359).bind fun t360 => (schismalaw16_list.j2 k2 t345 t346 x6_2 x7_2 x8_1 x9_2 x11_2 t351 (decide (t360 > 0)) l0_0 a0_1 l0_2)) = some (r1, r2) := H
           have A22 := Aside0.mk A220
           clear A220
           replace H := Option.bind_eq_some_iff.mp H
           obtain ⟨t360, A230, H⟩ := H
           replace H : (schismalaw16_list.j2 k2 t345 t346 x6_2 x7_2 x8_1 x9_2 x11_2 t351 (decide (t360 > 0)) l0_0 a0_1 l0_2) = some (r1, r2) := H
           have A23 := Aside0.mk A230
           clear A230
           have H' := Aside0.mk H
           clear H
           go_wp2_with (first | (go_at_call 46; (with_reducible refine (schismalaw16_gcd.calls k2 x8_1 x11_2 t355 _ A17.out).mono ?_); rintro e w' ⟨rfl, ⟨nd, rfl⟩⟩) | (go_at_call 41; (with_reducible refine (g_whole_Of.calls x8_1 t356 _ ?side1 A19.out).mono ?_); (case side1 => exact Glob.below HG.out (by repeat (first | (with_reducible first | exact HB.out | apply below_alloc | apply pw_below_drewN | apply below_drew1 | refine below_set ?_ GE344.out) | exact HB.out))); rintro e w24 ⟨rfl, hb⟩; have n0_ := Aside0.mk (Kd.S_below (by (with_reducible repeat (first | apply Kd.S_alloc | apply Kd.S_drewN | apply Kd.S_drew)); exact HO_6.out) hb); have n1_ := Aside0.mk (Kd.R_below (by (with_reducible repeat (first | apply Kd.R_alloc | apply Kd.R_drewN | apply Kd.R_drew)); exact HO_7.out) hb); have n2_ := Aside0.mk (Kd.R_below (by (with_reducible repeat (first | apply Kd.R_alloc | apply Kd.R_drewN | apply Kd.R_drew)); exact HO_9.out) hb); have n3_ := Aside0.mk (Kd.R_below (by (with_reducible repeat (first | apply Kd.R_alloc | apply Kd.R_drewN | apply Kd.R_drew)); exact HO354.out) hb); have n4_ := Aside0.mk (blk_below (g := gb344) (o := .cells #[.slice A0_0 l0_0.length c0_0, .int .i64 a0_1, .slice A0_2 l0_2.length c0_2] 32 (0, 0)) (by (with_reducible repeat (first | refine blk_drewN ?_ _ | refine blk_drew ?_ | refine blk_alloc ?_ _)); exact BK344.out) hb); have n5_ := Aside0.mk (below_step (by repeat (first | (with_reducible first | exact HB.out | apply below_alloc | apply pw_below_drewN | apply below_drew1 | refine below_set ?_ GE344.out) | exact HB.out)) hb); clear HO_6; clear HO_7; clear HO_9; clear HO354; clear BK344; clear HB; have HO_6 := n0_; have HO_7 := n1_; have HO_9 := n2_; have HO354 := n3_; have BK344 := n4_; have HB := n5_; clear n0_ n1_ n2_ n3_ n4_ n5_; (try clear hb); (try clear hb2); (try clear hk); (try clear hi)) | (go_at_call 40; (with_reducible refine (whole_Mul.calls k2 t356 t346 t357 _ ?side1 A20.out).mono ?_); (case side1 => exact Glob.below HG.out (by repeat (first | (with_reducible first | exact HB.out | apply below_alloc | apply pw_below_drewN | apply below_drew1 | refine below_set ?_ GE344.out) | exact HB.out))); rintro e w25 ⟨rfl, hb⟩; have n0_ := Aside0.mk (Kd.S_below (by (with_reducible repeat (first | apply Kd.S_alloc | apply Kd.S_drewN | apply Kd.S_drew)); exact HO_6.out) hb); have n1_ := Aside0.mk (Kd.R_below (by (with_reducible repeat (first | apply Kd.R_alloc | apply Kd.R_drewN | apply Kd.R_drew)); exact HO_7.out) hb); have n2_ := Aside0.mk (Kd.R_below (by (with_reducible repeat (first | apply Kd.R_alloc | apply Kd.R_drewN | apply Kd.R_drew)); exact HO_9.out) hb); have n3_ := Aside0.mk (Kd.R_below (by (with_reducible repeat (first | apply Kd.R_alloc | apply Kd.R_drewN | apply Kd.R_drew)); exact HO354.out) hb); have n4_ := Aside0.mk (blk_below (g := gb344) (o := .cells #[.slice A0_0 l0_0.length c0_0, .int .i64 a0_1, .slice A0_2 l0_2.length c0_2] 32 (0, 0)) (by (with_reducible repeat (first | refine blk_drewN ?_ _ | refine blk_drew ?_ | refine blk_alloc ?_ _)); exact BK344.out) hb); have n5_ := Aside0.mk (below_step (by repeat (first | (with_reducible first | exact HB.out | apply below_alloc | apply pw_below_drewN | apply below_drew1 | refine below_set ?_ GE344.out) | exact HB.out)) hb); clear HO_6; clear HO_7; clear HO_9; clear HO354; clear BK344; clear HB; have HO_6 := n0_; have HO_7 := n1_; have HO_9 := n2_; have HO354 := n3_; have BK344 := n4_; have HB := n5_; clear n0_ n1_ n2_ n3_ n4_ n5_; (try clear hb); (try clear hb2); (try clear hk); (try clear hi)) | (go_at_call 41; (with_reducible refine (g_whole_Of.calls x11_2 t358 _ ?side1 A21.out).mono ?_); (case side1 => exact Glob.below HG.out (by repeat (first | (with_reducible first | exact HB.out | apply below_alloc | apply pw_below_drewN | apply below_drew1 | refine below_set ?_ GE344.out) | exact HB.out))); rintro e w26 ⟨rfl, hb⟩; have n0_ := Aside0.mk (Kd.S_below (by (with_reducible repeat (first | apply Kd.S_alloc | apply Kd.S_drewN | apply Kd.S_drew)); exact HO_6.out) hb); have n1_ := Aside0.mk (Kd.R_below (by (with_reducible repeat (first | apply Kd.R_alloc | apply Kd.R_drewN | apply Kd.R_drew)); exact HO_7.out) hb); have n2_ := Aside0.mk (Kd.R_below (by (with_reducible repeat (first | apply Kd.R_alloc | apply Kd.R_drewN | apply Kd.R_drew)); exact HO_9.out) hb); have n3_ := Aside0.mk (Kd.R_below (by (with_reducible repeat (first | apply Kd.R_alloc | apply Kd.R_drewN | apply Kd.R_drew)); exact HO354.out) hb); have n4_ := Aside0.mk (blk_below (g := gb344) (o := .cells #[.slice A0_0 l0_0.length c0_0, .int .i64 a0_1, .slice A0_2 l0_2.length c0_2] 32 (0, 0)) (by (with_reducible repeat (first | refine blk_drewN ?_ _ | refine blk_drew ?_ | refine blk_alloc ?_ _)); exact BK344.out) hb); have n5_ := Aside0.mk (below_step (by repeat (first | (with_reducible first | exact HB.out | apply below_alloc | apply pw_below_drewN | apply below_drew1 | refine below_set ?_ GE344.out) | exact HB.out)) hb); clear HO_6; clear HO_7; clear HO_9; clear HO354; clear BK344; clear HB; have HO_6 := n0_; have HO_7 := n1_; have HO_9 := n2_; have HO354 := n3_; have BK344 := n4_; have HB := n5_; clear n0_ n1_ n2_ n3_ n4_ n5_; (try clear hb); (try clear hb2); (try clear hk); (try clear hi)) | (go_at_call 40; (with_reducible refine (whole_Mul.calls k2 t345 t358 t359 _ ?side1 A22.out).mono ?_); (case side1 => exact Glob.below HG.out (by repeat (first | (with_reducible first | exact HB.out | apply below_alloc | apply pw_below_drewN | apply below_drew1 | refine below_set ?_ GE344.out) | exact HB.out))); rintro e w27 ⟨rfl, hb⟩; have n0_ := Aside0.mk (Kd.S_below (by (with_reducible repeat (first | apply Kd.S_alloc | apply Kd.S_drewN | apply Kd.S_drew)); exact HO_6.out) hb); have n1_ := Aside0.mk (Kd.R_below (by (with_reducible repeat (first | apply Kd.R_alloc | apply Kd.R_drewN | apply Kd.R_drew)); exact HO_7.out) hb); have n2_ := Aside0.mk (Kd.R_below (by (with_reducible repeat (first | apply Kd.R_alloc | apply Kd.R_drewN | apply Kd.R_drew)); exact HO_9.out) hb); have n3_ := Aside0.mk (Kd.R_below (by (with_reducible repeat (first | apply Kd.R_alloc | apply Kd.R_drewN | apply Kd.R_drew)); exact HO354.out) hb); have n4_ := Aside0.mk (blk_below (g := gb344) (o := .cells #[.slice A0_0 l0_0.length c0_0, .int .i64 a0_1, .slice A0_2 l0_2.length c0_2] 32 (0, 0)) (by (with_reducible repeat (first | refine blk_drewN ?_ _ | refine blk_drew ?_ | refine blk_alloc ?_ _)); exact BK344.out) hb); have n5_ := Aside0.mk (below_step (by repeat (first | (with_reducible first | exact HB.out | apply below_alloc | apply pw_below_drewN | apply below_drew1 | refine below_set ?_ GE344.out) | exact HB.out)) hb); clear HO_6; clear HO_7; clear HO_9; clear HO354; clear BK344; clear HB; have HO_6 := n0_; have HO_7 := n1_; have HO_9 := n2_; have HO354 := n3_; have BK344 := n4_; have HB := n5_; clear n0_ n1_ n2_ n3_ n4_ n5_; (try clear hb); (try clear hb2); (try clear hk); (try clear hi)) | (go_at_call 37; (with_reducible refine (whole_Compare.calls t357 t359 t360 _ A23.out).mono ?_); rintro e w28 ⟨rfl, hb⟩; have n0_ := Aside0.mk (Kd.S_below (by (with_reducible repeat (first | apply Kd.S_alloc | apply Kd.S_drewN | apply Kd.S_drew)); exact HO_6.out) hb); have n1_ := Aside0.mk (Kd.R_below (by (with_reducible repeat (first | apply Kd.R_alloc | apply Kd.R_drewN | apply Kd.R_drew)); exact HO_7.out) hb); have n2_ := Aside0.mk (Kd.R_below (by (with_reducible repeat (first | apply Kd.R_alloc | apply Kd.R_drewN | apply Kd.R_drew)); exact HO_9.out) hb); have n3_ := Aside0.mk (Kd.R_below (by (with_reducible repeat (first | apply Kd.R_alloc | apply Kd.R_drewN | apply Kd.R_drew)); exact HO354.out) hb); have n4_ := Aside0.mk (blk_below (g := gb344) (o := .cells #[.slice A0_0 l0_0.length c0_0, .int .i64 a0_1, .slice A0_2 l0_2.length c0_2] 32 (0, 0)) (by (with_reducible repeat (first | refine blk_drewN ?_ _ | refine blk_drew ?_ | refine blk_alloc ?_ _)); exact BK344.out) hb); have n5_ := Aside0.mk (below_step (by repeat (first | (with_reducible first | exact HB.out | apply below_alloc | apply pw_below_drewN | apply below_drew1 | refine below_set ?_ GE344.out) | exact HB.out)) hb); clear HO_6; clear HO_7; clear HO_9; clear HO354; clear BK344; clear HB; have HO_6 := n0_; have HO_7 := n1_; have HO_9 := n2_; have HO354 := n3_; have BK344 := n4_; have HB := n5_; clear n0_ n1_ n2_ n3_ n4_ n5_; (try clear hb); (try clear hb2); (try clear hk); (try clear hi)))
           go_meet
           case rel => exact ⟨_, (decide (t360 > 0)), (by first | rfl | (simp; done) | (simp [*]; done)), H', ⟨by have := HK1.out; have := HK2.out; first | omega | exact Nat.le_refl _⟩, ⟨by (with_reducible repeat (first | apply Kd.S_alloc | apply Kd.S_drewN | apply Kd.S_drew)); exact HO_6.out⟩, ⟨by (with_reducible repeat (first | apply Kd.R_alloc | apply Kd.R_drewN | apply Kd.R_drew)); exact HO_7.out⟩, ⟨by (with_reducible repeat (first | apply Kd.R_alloc | apply Kd.R_drewN | apply Kd.R_drew)); exact Kd.R_mono HO_9.out (fun _ hk => hk.2)⟩, ⟨by (with_reducible repeat (first | apply Kd.R_alloc | apply Kd.R_drewN | apply Kd.R_drew)); exact Kd.R_mono HO354.out (fun _ hk => hk.2)⟩, ⟨by (with_reducible repeat (first | refine blk_drewN ?_ _ | refine blk_drew ?_ | refine blk_alloc ?_ _)); exact BK344.out⟩, ⟨by repeat (first | (with_reducible first | exact HB.out | apply below_alloc | apply pw_below_drewN | apply below_drew1 | refine below_set ?_ GE344.out) | exact HB.out)⟩⟩
          ·rw [if_neg c18] at H
           have c18b0 : (t355 == 1) = false := beq_eq_false_iff_ne.mpr c18
           have c18b1 : (t355 != 1) = true := bne_iff_ne.mpr c18
           (first | rw [c18b0] | (simp only [i64_w, i32_w]; rw [c18b0]) | skip)
           have H' := Aside0.mk H
           clear H
           go_wp2_with (first | (go_at_call 46; (with_reducible refine (schismalaw16_gcd.calls k2 x8_1 x11_2 t355 _ A17.out).mono ?_); rintro e w' ⟨rfl, ⟨nd, rfl⟩⟩))
           go_meet
           case rel => exact ⟨_, (true), (by first | rfl | (simp; done) | (simp [*]; done)), H', ⟨by have := HK1.out; have := HK2.out; first | omega | exact Nat.le_refl _⟩, ⟨by (with_reducible repeat (first | apply Kd.S_alloc | apply Kd.S_drewN | apply Kd.S_drew)); exact HO_6.out⟩, ⟨by (with_reducible repeat (first | apply Kd.R_alloc | apply Kd.R_drewN | apply Kd.R_drew)); exact HO_7.out⟩, ⟨by (with_reducible repeat (first | apply Kd.R_alloc | apply Kd.R_drewN | apply Kd.R_drew)); exact Kd.R_mono HO_9.out (fun _ hk => hk.2)⟩, ⟨by (with_reducible repeat (first | apply Kd.R_alloc | apply Kd.R_drewN | apply Kd.R_drew)); exact Kd.R_mono HO354.out (fun _ hk => hk.2)⟩, ⟨by (with_reducible repeat (first | refine blk_drewN ?_ _ | refine blk_drew ?_ | refine blk_alloc ?_ _)); exact BK344.out⟩, ⟨by repeat (first | (with_reducible first | exact HB.out | apply below_alloc | apply pw_below_drewN | apply below_drew1 | refine below_set ?_ GE344.out) | exact HB.out)⟩⟩
         ·replace c16 := Bool.eq_false_iff.mpr c16
          subst c16
          have H1 : (schismalaw16_list.j2 k2 t345 t346 x6_2 x7_2 x8_1 x9_2 x11_2 t351 true l0_0 a0_1 l0_2) = some (r1, r2) := by rw [if_neg (show ¬ (false = true) by decide)] at H; exact H
          clear H
          have H := H1
          clear H1
          have H' := Aside0.mk H
          clear H
          go_wp2
          go_meet
          case rel => exact ⟨_, (true), (by first | rfl | (simp; done) | (simp [*]; done)), H', ⟨by have := HK1.out; have := HK2.out; first | omega | exact Nat.le_refl _⟩, ⟨by (with_reducible repeat (first | apply Kd.S_alloc | apply Kd.S_drewN | apply Kd.S_drew)); exact HO_6.out⟩, ⟨by (with_reducible repeat (first | apply Kd.R_alloc | apply Kd.R_drewN | apply Kd.R_drew)); exact HO_7.out⟩, ⟨by (with_reducible repeat (first | apply Kd.R_alloc | apply Kd.R_drewN | apply Kd.R_drew)); exact Kd.R_mono HO_9.out (fun _ hk => hk.2)⟩, ⟨by (with_reducible repeat (first | apply Kd.R_alloc | apply Kd.R_drewN | apply Kd.R_drew)); exact Kd.R_mono HO354.out (fun _ hk => hk.2)⟩, ⟨by (with_reducible repeat (first | refine blk_drewN ?_ _ | refine blk_drew ?_ | refine blk_alloc ?_ _)); exact BK344.out⟩, ⟨by repeat (first | (with_reducible first | exact HB.out | apply below_alloc | apply pw_below_drewN | apply below_drew1 | refine below_set ?_ GE344.out) | exact HB.out)⟩⟩
        case rest =>
         clear HC13
         try clear c1
         try clear p2
         try clear c3
         try clear c4
         try clear c6
         try clear c6b0
         try clear p6
         try clear c8
         try clear c11
         try clear c11b0
         try clear c15
         try clear c16
         try clear c18
         try clear c18b0
         try clear c18b1
         try clear hcz14_0
         try clear hcz14_1
         try clear hcz14_2
         try clear hcz4_0
         try clear hcz4_1
         try clear hcz4_2
         try clear hcz9_0
         try clear hcz9_1
         try clear hcz9_2
         try clear hfz14_0
         try clear hfz14_1
         try clear hfz14_2
         try clear hfz4_0
         try clear hfz4_1
         try clear hfz4_2
         try clear hfz9_0
         try clear hfz9_1
         try clear hfz9_2
         try clear p2
         try clear p6
         obtain ⟨kq, x70_12, rfl, HA, HJ12, HO_6, HO_7, HO_9, HO_12, BK344, HB⟩ := hcut
         cases kq with
         | zero => exact absurd HA.out (by simp [schismalaw16_list.j2])
         | succ kj12 =>
          have H := HA.out
          clear HA
          simp only [schismalaw16_list.j2] at H
          by_cases c29 : x70_12 = true
          ·subst c29
           have H1 : (schismalaw16_list.l1 kj12 t345 t346 x6_2 x7_2 x8_1 x9_2 (wrap64 (x11_2 + 1)) l0_0 a0_1 l0_2) = some (r1, r2) := by rw [if_pos rfl] at H; exact H
           clear H
           have H := H1
           clear H1
           have H' := Aside0.mk H
           clear H
           go_wp2
           go_roundg kj12
           case measure => have := HK1.out; have := HK2.out; have := HJ12.out; omega
           case rel => exact ⟨(x6_2), (x7_2), (x9_2), (wrap64 (x11_2 + 1)), (by first | rfl | (simp; done) | (simp [*]; done)), H', ⟨by have := HK1.out; have := HK2.out; have := HJ12.out; omega⟩, ⟨by (with_reducible repeat (first | apply Kd.S_alloc | apply Kd.S_drewN | apply Kd.S_drew)); exact Kd.S_mono HO_6.out (fun _ hk => hk.1)⟩, ⟨by (with_reducible repeat (first | apply Kd.R_alloc | apply Kd.R_drewN | apply Kd.R_drew)); exact HO_7.out⟩, ⟨by (with_reducible repeat (first | apply Kd.R_alloc | apply Kd.R_drewN | apply Kd.R_drew)); exact Kd.R_mono HO_9.out (fun _ hk => trivial)⟩, ⟨by (with_reducible repeat (first | refine blk_drewN ?_ _ | refine blk_drew ?_ | refine blk_alloc ?_ _)); exact BK344.out⟩, ⟨by repeat (first | (with_reducible first | exact HB.out | apply below_alloc | apply pw_below_drewN | apply below_drew1 | refine below_set ?_ GE344.out) | exact HB.out)⟩⟩
          ·replace c29 := Bool.eq_false_iff.mpr c29
           subst c29
           have H1 : (if 0 ≤ (x9_2.length : Int) then (if ((x9_2.length : Int) : Int).toNat ≤ 35184372088832 then (schismalaw16_list.l2 kj12 t345 t346 x6_2 x7_2 x8_1 x9_2 x11_2 t351 (List.replicate ((x9_2.length : Int) : Int).toNat 0) 0 l0_0 a0_1 l0_2) else (none)) else (none)) = some (r1, r2) := by rw [if_neg (show ¬ (false = true) by decide)] at H; exact H
           clear H
           have H := H1
           clear H1
           by_cases c30 : 0 ≤ (x9_2.length : Int)
           ·rw [if_pos c30] at H
            have c30b0 := eq_true c30
            have c30b1 : decide (0 ≤ (x9_2.length : Int)) = true := decide_eq_true c30
            clear c30
            by_cases c31 : ((x9_2.length : Int) : Int).toNat ≤ 35184372088832
            ·rw [if_pos c31] at H
             have c31b0 := eq_true c31
             have c31b1 : decide (((x9_2.length : Int) : Int).toNat ≤ 35184372088832) = true := decide_eq_true c31
             clear c31
             obtain ⟨y361, hy361⟩ : ∃ y_ : List Int, y_ = (List.replicate ((x9_2.length : Int) : Int).toNat 0) := ⟨_, rfl⟩
             replace H : (schismalaw16_list.l2 kj12 t345 t346 x6_2 x7_2 x8_1 x9_2 x11_2 t351 y361 0 l0_0 a0_1 l0_2) = some (r1, r2) := by first | (rw [hy361]; exact H) | exact H
             have Ny361 := Aside0.mk hy361
             clear hy361
             have H' := Aside0.mk H
             clear H
             obtain ⟨Ao32, co32, eo32⟩ := Kd.R_slice HO_9.out
             subst eo32
             go_wp2_with (first | ((with_reducible refine gate_dst (N := 73) rfl ?_); refine Kd.R_make (Kd.int .i64) _ 3 rfl (N := 73) rfl 30 _ _ rfl (x9_2.length : Int) rfl rfl Tryz.underlying30 (.int .i64 0) 8 info3 rfl (by decide) (by omega) 0 (ok := fun _ => True) (okp := fun _ => True) rfl (fun _ hk => hk) trivial (of_decide_eq_true (by with_reducible assumption)) (Nat.le_trans (Nat.mul_le_mul_right _ (of_decide_eq_true (by with_reducible assumption) : (x9_2.length : Int).toNat ≤ 35184372088832)) (by omega)) (Below.refl _ _) (Nat.le_refl _) ?_; intro v362 w33 ho34 hb hg_ hnew_; clear hg_ hnew_; (first | rw [← Ny361.out] at ho34 | (simp only [Int.reduceToNat] at ho34; rw [← Ny361.out] at ho34)); have n0_ := Aside0.mk (Kd.S_elder' (by (with_reducible repeat (first | apply Kd.S_alloc | apply Kd.S_drewN | apply Kd.S_drew)); exact HO_6.out) (Kd.R_base ho34) hb); have n1_ := Aside0.mk (Kd.R_below (by (with_reducible repeat (first | apply Kd.R_alloc | apply Kd.R_drewN | apply Kd.R_drew)); exact HO_7.out) hb); have n2_ := Aside0.mk (Kd.R_elder' (by (with_reducible repeat (first | apply Kd.R_alloc | apply Kd.R_drewN | apply Kd.R_drew)); exact HO_9.out) (Kd.R_base ho34) hb); have n3_ := Aside0.mk (Kd.R_elder' (by (with_reducible repeat (first | apply Kd.R_alloc | apply Kd.R_drewN | apply Kd.R_drew)); exact HO_12.out) (Kd.R_base ho34) hb); have n4_ := Aside0.mk (Kd.R_lower (Kd.R_new' (Kd.R_new' ho34 (Kd.R_lt (by (with_reducible repeat (first | apply Kd.R_alloc | apply Kd.R_drewN | apply Kd.R_drew)); exact HO_9.out))) (Kd.R_lt (by (with_reducible repeat (first | apply Kd.R_alloc | apply Kd.R_drewN | apply Kd.R_drew)); exact HO_12.out))) (below_size (by repeat (first | (with_reducible first | exact HB.out | apply below_alloc | apply pw_below_drewN | apply below_drew1 | refine below_set ?_ GE344.out) | exact HB.out)))); have n5_ := Aside0.mk (blk_below (g := gb344) (o := .cells #[.slice A0_0 l0_0.length c0_0, .int .i64 a0_1, .slice A0_2 l0_2.length c0_2] 32 (0, 0)) (by (with_reducible repeat (first | refine blk_drewN ?_ _ | refine blk_drew ?_ | refine blk_alloc ?_ _)); exact BK344.out) hb); have n6_ := Aside0.mk (below_step (by repeat (first | (with_reducible first | exact HB.out | apply below_alloc | apply pw_below_drewN | apply below_drew1 | refine below_set ?_ GE344.out) | exact HB.out)) hb); clear HO_6; clear HO_7; clear HO_9; clear HO_12; clear BK344; clear HB; have HO_6 := n0_; have HO_7 := n1_; have HO_9 := n2_; have HO_12 := n3_; have HO363 := n4_; have BK344 := n5_; have HB := n6_; clear n0_ n1_ n2_ n3_ n4_ n5_ n6_; clear hb ho34))
             go_loopg [15] kj12 (fun kq v15 w' => ∃ (x14_4 : List Int) (x15_4 : Int), v15 = .int .i64 x15_4 ∧ Aside0 (schismalaw16_list.l2 kq t345 t346 x6_2 x7_2 x8_1 x9_2 x11_2 t351 x14_4 x15_4 l0_0 a0_1 l0_2 = some (r1, r2)) ∧ Aside0 (kq ≤ kj12) ∧ Aside0 (Kd.S (Kd.slice 3 (Kd.int .i64)) 30 w' w.heap.size (fun k_ => some k_ ≠ ((.slice Ao32 x9_2.length co32) : Value).ownBlock ∧ some k_ ≠ (v353 : Value).ownBlock ∧ some k_ ≠ (v362 : Value).ownBlock) u6 x6_2) ∧ Aside0 (Kd.R k47 47 w' w.heap.size (fun _ => True) u7 x7_2) ∧ Aside0 (Kd.R (Kd.int .i64) 3 w' w.heap.size (fun k_ => some k_ ≠ (v353 : Value).ownBlock ∧ some k_ ≠ (v362 : Value).ownBlock) (.slice Ao32 x9_2.length co32) x9_2) ∧ Aside0 (Kd.R (Kd.int .i64) 3 w' w.heap.size (fun k_ => some k_ ≠ ((.slice Ao32 x9_2.length co32) : Value).ownBlock ∧ some k_ ≠ (v362 : Value).ownBlock) v353 t351) ∧ Aside0 (Kd.R (Kd.int .i64) 3 w' w.heap.size (fun k_ => some k_ ≠ ((.slice Ao32 x9_2.length co32) : Value).ownBlock ∧ some k_ ≠ (v353 : Value).ownBlock) v362 x14_4) ∧ Aside0 (w'.heap[gb344]? = some (.cells #[(.slice A0_0 l0_0.length c0_0), .int .i64 a0_1, (.slice A0_2 l0_2.length c0_2)] 32 (0, 0))) ∧ Aside0 (Below w.heap.size w w'))
             case atStart => exact ⟨(y361), (0), (by first | rfl | (simp; done) | (simp [*]; done)), H', ⟨Nat.le_refl _⟩, ⟨by (with_reducible repeat (first | apply Kd.S_alloc | apply Kd.S_drewN | apply Kd.S_drew)); exact Kd.S_mono HO_6.out (fun _ hk => ⟨hk.1.1, ⟨hk.1.2, hk.2⟩⟩)⟩, ⟨by (with_reducible repeat (first | apply Kd.R_alloc | apply Kd.R_drewN | apply Kd.R_drew)); exact HO_7.out⟩, ⟨by (with_reducible repeat (first | apply Kd.R_alloc | apply Kd.R_drewN | apply Kd.R_drew)); exact HO_9.out⟩, ⟨by (with_reducible repeat (first | apply Kd.R_alloc | apply Kd.R_drewN | apply Kd.R_drew)); exact HO_12.out⟩, ⟨by (with_reducible repeat (first | apply Kd.R_alloc | apply Kd.R_drewN | apply Kd.R_drew)); exact Kd.R_mono HO363.out (fun _ hk => ⟨hk.1.2, hk.2⟩)⟩, ⟨by (with_reducible repeat (first | refine blk_drewN ?_ _ | refine blk_drew ?_ | refine blk_alloc ?_ _)); exact BK344.out⟩, ⟨by repeat (first | (with_reducible first | exact HB.out | apply below_alloc | apply pw_below_drewN | apply below_drew1 | refine below_set ?_ GE344.out) | exact HB.out)⟩⟩
             case round =>
              clear H'
              try clear c1
              try clear c2
              try clear p2
              try clear c3
              try clear c4
              try clear c6
              try clear c6b0
              try clear p6
              try clear c8
              try clear c11
              try clear c11b0
              try clear c15
              try clear c16
              try clear c18
              try clear c18b0
              try clear c18b1
              try clear c29
              try clear c30
              try clear c30b0
              try clear c30b1
              try clear c31
              try clear c31b0
              try clear c31b1
              try clear hcz14_0
              try clear hcz14_1
              try clear hcz14_2
              try clear hcz4_0
              try clear hcz4_1
              try clear hcz4_2
              try clear hcz9_0
              try clear hcz9_1
              try clear hcz9_2
              try clear hfz14_0
              try clear hfz14_1
              try clear hfz14_2
              try clear hfz4_0
              try clear hfz4_1
              try clear hfz4_2
              try clear hfz9_0
              try clear hfz9_1
              try clear hfz9_2
              try clear p2
              try clear p6
              obtain ⟨x14_4, x15_4, rfl, HA, HK4, HO_6, HO_7, HO_9, HO_12, HO_14, BK344, HB⟩ := hrel
              cases gk with
              | zero => exact absurd HA.out (by simp [schismalaw16_list.l2])
              | succ k4 =>
               have H := HA.out
               clear HA
               simp only [schismalaw16_list.l2] at H
               by_cases c35 : x15_4 < (x9_2.length : Int)
               ·rw [if_pos c35] at H
                have c35b0 : decide (x15_4 < (x9_2.length : Int)) = true := decide_eq_true c35
                clear c35
                by_cases c36 : 0 ≤ x15_4
                ·rw [if_pos c36] at H
                 have c36b0 : decide (0 ≤ x15_4) = true := decide_eq_true c36
                 clear c36
                 by_cases c37 : x15_4 < (t351.length : Int)
                 ·rw [if_pos c37] at H
                  have c37b0 : decide (x15_4 < (t351.length : Int)) = true := decide_eq_true c37
                  clear c37
                  by_cases c38 : x15_4 < (x14_4.length : Int)
                  ·rw [if_pos c38] at H
                   have c38b0 : decide (x15_4 < (x14_4.length : Int)) = true := decide_eq_true c38
                   clear c38
                   obtain ⟨y366, hy366⟩ : ∃ y_ : List Int, y_ = (x14_4.set (x15_4 : Int).toNat (wrap64 ((rd x9_2 x15_4) - (rd t351 x15_4)))) := ⟨_, rfl⟩
                   replace H : (schismalaw16_list.l2 k4 t345 t346 x6_2 x7_2 x8_1 x9_2 x11_2 t351 y366 (wrap64 (x15_4 + 1)) l0_0 a0_1 l0_2) = some (r1, r2) := by first | (rw [hy366]; exact H) | exact H
                   have Ny366 := Aside0.mk hy366
                   clear hy366
                   have H' := Aside0.mk H
                   clear H
                   try go_wp2
                   have n0_ := Aside0.mk (Kd.S_drew HO_6.out)
                   have n1_ := Aside0.mk (Kd.R_drew HO_7.out)
                   have n2_ := Aside0.mk (Kd.R_drew HO_9.out)
                   have n3_ := Aside0.mk (Kd.R_drew HO_12.out)
                   have n4_ := Aside0.mk (Kd.R_drew HO_14.out)
                   have n5_ := Aside0.mk (blk_drew BK344.out)
                   have n6_ := Aside0.mk (below_drew1 HB.out)
                   clear HO_6
                   clear HO_7
                   clear HO_9
                   clear HO_12
                   clear HO_14
                   clear BK344
                   clear HB
                   have HO_6 := n0_
                   have HO_7 := n1_
                   have HO_9 := n2_
                   have HO_12 := n3_
                   have HO_14 := n4_
                   have BK344 := n5_
                   have HB := n6_
                   clear n0_ n1_ n2_ n3_ n4_ n5_ n6_
                   have p364 : 0 ≤ (x15_4 : Int) := of_decide_eq_true (by with_reducible assumption)
                   have q364 : x15_4 < (x9_2.length : Int) := of_decide_eq_true (by with_reducible assumption)
                   obtain ⟨ad364, e364, hx364_0⟩ := Kd.at_int (Kd.R_reads' HO_9.out).2.2 x15_4 p364 q364
                   cases e364
                   replace p364 := eq_true p364
                   replace q364 := eq_true q364
                   obtain ⟨Ao41, co41, eo41⟩ := Kd.R_slice HO_12.out
                   (first | subst eo41 | (injection eo41 with f1_ f2_ f3_; have f4_ := f1_.symm; have f5_ := f3_.symm; clear f1_ f2_ f3_; subst f4_; subst f5_))
                   have p365 : 0 ≤ (x15_4 : Int) := of_decide_eq_true (by with_reducible assumption)
                   have q365 : x15_4 < (t351.length : Int) := of_decide_eq_true (by with_reducible assumption)
                   obtain ⟨ad365, e365, hx365_0⟩ := Kd.at_int (Kd.R_reads' HO_12.out).2.2 x15_4 p365 q365
                   cases e365
                   replace p365 := eq_true p365
                   replace q365 := eq_true q365
                   have p39 : 0 ≤ (x15_4 : Int) := of_decide_eq_true (by with_reducible assumption)
                   have q39 : (x15_4 : Int) < ((x14_4.length : Int) : Int) := of_decide_eq_true (by with_reducible assumption)
                   obtain ⟨go39, co39, eo39, gb39, gl39, cl39, HG39⟩ := Kd.R_form HO_14.out (by omega)
                   (first | cases eo39 | (injection eo39 with ea_ en_ ec_; (first | subst ea_ | (injection ea_ with ea_; subst ea_)); subst ec_; clear en_))
                   have GB39 := Aside0.mk gb39
                   have GG39 := Aside0.mk HG39
                   clear gb39 gl39 HG39
                   obtain ⟨hx39_0, hf39_0⟩ := Kd.R_celln 0 HO_14.out (x15_4 : Int) p39 q39
                   replace p39 := eq_true p39
                   replace q39 := eq_true q39
                   have HP42 := Kd.R_putn HO_14.out (x15_4 : Int) (wrap64 ((rd x9_2 x15_4) - (rd t351 x15_4)))
                   rw [← Ny366.out] at HP42
                   have HQ42 := Aside0.mk HP42
                   clear HP42
                   refine start_ (n := 13) (S := fun w' => w'.cell? (ad364.add (x15_4).toNat) = some (.int .i64 (rd x9_2 x15_4)) ∧ w'.cell? (ad365.add (x15_4).toNat) = some (.int .i64 (rd t351 x15_4))) (ds := [12]) #[false, false, false, false, false, false, false, false, false, false, false, false, false] (by kernel_rfl) rfl rfl ⟨hx364_0, hx365_0⟩ (fun hHeld => ?_); refine with_tabW schismalaw16_list.tab18 schismalaw16_list.bits18 (fun HT_ HW_ => ?_)
                   generalize wr.drew = w40 at HO_6 HO_7 HO_9 HO_12 HO_14 BK344 HB GG39 HQ42 hf39_0 hx364_0 hx365_0 hx39_0 hHeld ⊢
                   refine pure_ (i := 0) (N := some 80) (v := ?_) (a' := ?_) #[true, false, false, false, false, false, false, false, false, false, false, false, false] rfl rfl (any_of HT_.out (by kernel_rfl)) (fun _ _ _ h => h) (Or.inl ⟨by rfl, ?_⟩) ?_ ?_
                   rotate_left
                   ·intro w'
                    go_simp
                    with_reducible rfl
                   rotate_left
                   ·simp only [Act.put, List.setIfInBounds_toArray, List.set_cons_zero, List.set_cons_succ, i64_w, i32_w]
                    rfl
                   refine pure_ (i := 1) (N := some 81) (v := ?_) (a' := ?_) #[true, true, false, false, false, false, false, false, false, false, false, false, false] rfl rfl (any_of HT_.out (by kernel_rfl)) (fun _ _ _ h => h) (Or.inl ⟨by rfl, ?_⟩) ?_ ?_
                   rotate_left
                   ·intro w'
                    go_simp
                    with_reducible rfl
                   rotate_left
                   ·simp only [Act.put, List.setIfInBounds_toArray, List.set_cons_zero, List.set_cons_succ, i64_w, i32_w]
                    rfl
                   refine pure_ (i := 2) (N := some 82) (v := ?_) (a' := ?_) #[true, true, true, false, false, false, false, false, false, false, false, false, false] rfl rfl (any_of HT_.out (by kernel_rfl)) (fun _ _ _ h => h) (Or.inl ⟨by rfl, ?_⟩) ?_ ?_
                   rotate_left
                   ·intro w'
                    go_simp
                    with_reducible rfl
                   rotate_left
                   ·simp only [Act.put, List.setIfInBounds_toArray, List.set_cons_zero, List.set_cons_succ, i64_w, i32_w]
                    rfl
                   refine pure_ (i := 3) (N := some 83) (v := ?_) (a' := ?_) #[true, true, true, true, false, false, false, false, false, false, false, false, false] rfl rfl (any_of HT_.out (by kernel_rfl)) (fun _ _ _ h => h) (Or.inl ⟨by rfl, ?_⟩) ?_ ?_
                   rotate_left
                   ·intro w'
                    go_simp
                    with_reducible rfl
                   rotate_left
                   ·simp only [Act.put, List.setIfInBounds_toArray, List.set_cons_zero, List.set_cons_succ, i64_w, i32_w]
                    rfl
                   refine pure_ (i := 4) (N := some 84) (v := ?_) (a' := ?_) #[true, true, true, true, true, false, false, false, false, false, false, false, false] rfl rfl (any_of HT_.out (by kernel_rfl)) (fun _ _ _ h => h) (Or.inl ⟨by rfl, ?_⟩) ?_ ?_
                   rotate_left
                   ·intro w'
                    go_simp
                    with_reducible rfl
                   rotate_left
                   ·simp only [Act.put, List.setIfInBounds_toArray, List.set_cons_zero, List.set_cons_succ, i64_w, i32_w]
                    rfl
                   refine pure_ (i := 6) (N := some 86) (v := ?_) (a' := ?_) #[true, true, true, true, true, false, true, false, false, false, false, false, false] rfl rfl (any_of HT_.out (by kernel_rfl)) (fun _ _ _ h => h) (Or.inl ⟨by rfl, ?_⟩) ?_ ?_
                   rotate_left
                   ·intro w'
                    go_simp
                    with_reducible rfl
                   rotate_left
                   ·simp only [Act.put, List.setIfInBounds_toArray, List.set_cons_zero, List.set_cons_succ, i64_w, i32_w]
                    rfl
                   refine pure_ (i := 7) (N := some 87) (v := ?_) (a' := ?_) #[true, true, true, true, true, false, true, true, false, false, false, false, false] rfl rfl (any_of HT_.out (by kernel_rfl)) (fun _ _ _ h => h) (Or.inl ⟨by rfl, ?_⟩) ?_ ?_
                   rotate_left
                   ·intro w'
                    go_simp
                    with_reducible rfl
                   rotate_left
                   ·simp only [Act.put, List.setIfInBounds_toArray, List.set_cons_zero, List.set_cons_succ, i64_w, i32_w]
                    rfl
                   refine pure_ (i := 8) (N := some 88) (v := ?_) (a' := ?_) #[true, true, true, true, true, false, true, true, true, false, false, false, false] rfl rfl (any_of HT_.out (by kernel_rfl)) (fun _ _ _ h => h) (Or.inl ⟨by rfl, ?_⟩) ?_ ?_
                   rotate_left
                   ·intro w'
                    go_simp
                    with_reducible rfl
                   rotate_left
                   ·simp only [Act.put, List.setIfInBounds_toArray, List.set_cons_zero, List.set_cons_succ, i64_w, i32_w]
                    rfl
                   refine take_ (i := 5) (N := some 85) (v := ?_) (a' := ?_) #[true, true, true, true, true, true, true, true, true, false, false, false, false] rfl rfl (take_ofW HT_.out HW_.out (by kernel_rfl)) (fun _ _ _ h => h) (Or.inl ⟨by rfl, ?_⟩) hHeld ?_ ?_
                   rotate_left
                   ·rintro w' ⟨s0, s1⟩
                    go_simp
                    with_reducible rfl
                   rotate_left
                   ·simp only [Act.put, List.setIfInBounds_toArray, List.set_cons_zero, List.set_cons_succ, i64_w, i32_w]
                    rfl
                   refine take_ (i := 9) (N := some 89) (v := ?_) (a' := ?_) #[true, true, true, true, true, true, true, true, true, true, false, false, false] rfl rfl (take_ofW HT_.out HW_.out (by kernel_rfl)) (fun _ _ _ h => h) (Or.inl ⟨by rfl, ?_⟩) hHeld ?_ ?_
                   rotate_left
                   ·rintro w' ⟨s0, s1⟩
                    go_simp
                    with_reducible rfl
                   rotate_left
                   ·simp only [Act.put, List.setIfInBounds_toArray, List.set_cons_zero, List.set_cons_succ, i64_w, i32_w]
                    rfl
                   refine pure_ (i := 10) (N := some 90) (v := ?_) (a' := ?_) #[true, true, true, true, true, true, true, true, true, true, true, false, false] rfl rfl (any_of HT_.out (by kernel_rfl)) (fun _ _ _ h => h) (Or.inl ⟨by rfl, ?_⟩) ?_ ?_
                   rotate_left
                   ·intro w'
                    go_simp
                    with_reducible rfl
                   rotate_left
                   ·simp only [Act.put, List.setIfInBounds_toArray, List.set_cons_zero, List.set_cons_succ, i64_w, i32_w]
                    rfl
                   refine pure_ (i := 11) (N := some 91) (v := ?_) (a' := ?_) #[true, true, true, true, true, true, true, true, true, true, true, true, false] rfl rfl (any_of HT_.out (by kernel_rfl)) (fun _ _ _ h => h) (Or.inl ⟨by rfl, ?_⟩) ?_ ?_
                   rotate_left
                   ·intro w'
                    go_simp
                    with_reducible rfl
                   rotate_left
                   ·simp only [Act.put, List.setIfInBounds_toArray, List.set_cons_zero, List.set_cons_succ, i64_w, i32_w]
                    rfl
                   refine last_ (i := 12) (N := none) #[true, true, true, true, true, true, true, true, true, true, true, true, true] rfl rfl (one_of HT_.out (by kernel_rfl)) (by decide) (fun K hK => ?_)
                   refine skip_ (w1 := ?_) (by rfl) rfl ?_ ?_
                   rotate_left
                   ·go_simp
                    rfl
                   refine hK.out _ _ ?_
                   clear hK K
                   refine done_ (done_of HT_.out (by kernel_rfl)) ?_
                   try go_wp2
                   go_roundg k4
                   case measure => have := HK1.out; have := HK2.out; have := HJ12.out; have := HK4.out; omega
                   case rel => exact ⟨(y366), (wrap64 (x15_4 + 1)), (by first | rfl | (simp; done) | (simp [*]; done)), H', ⟨by have := HK1.out; have := HK2.out; have := HJ12.out; have := HK4.out; omega⟩, ⟨by (with_reducible repeat (first | apply Kd.S_alloc | apply Kd.S_drewN | apply Kd.S_drew)); exact Kd.S_mono (Kd.S_far (p := ⟨go39, (x15_4 : Int).toNat, none⟩) (Kd.S_mono HO_6.out (fun k_ hk => (⟨hk, fun e_ => hk.2.2 (by rw [e_]; rfl)⟩ : _ ∧ k_ ≠ go39))) (fun _ hk => hk.2) (.int .i64 (wrap64 ((rd x9_2 x15_4) - (rd t351 x15_4))))) (fun _ hk => ⟨hk.1.1, ⟨hk.1.2.1, hk.1.2.2⟩⟩)⟩, ⟨by (with_reducible repeat (first | apply Kd.R_alloc | apply Kd.R_drewN | apply Kd.R_drew)); exact Kd.R_mono (Kd.R_far (p := ⟨go39, (x15_4 : Int).toNat, none⟩) (Kd.R_types HO_7.out GG39.out (by decide)) (fun _ hk => hk.2) (.int .i64 (wrap64 ((rd x9_2 x15_4) - (rd t351 x15_4))))) (fun _ hk => trivial)⟩, ⟨by (with_reducible repeat (first | apply Kd.R_alloc | apply Kd.R_drewN | apply Kd.R_drew)); exact Kd.R_mono (Kd.R_far (p := ⟨go39, (x15_4 : Int).toNat, none⟩) (Kd.R_mono HO_9.out (fun k_ hk => (⟨hk, fun e_ => hk.2 (by rw [e_]; rfl)⟩ : _ ∧ k_ ≠ go39))) (fun _ hk => hk.2) (.int .i64 (wrap64 ((rd x9_2 x15_4) - (rd t351 x15_4))))) (fun _ hk => ⟨hk.1.1, hk.1.2⟩)⟩, ⟨by (with_reducible repeat (first | apply Kd.R_alloc | apply Kd.R_drewN | apply Kd.R_drew)); exact Kd.R_mono (Kd.R_far (p := ⟨go39, (x15_4 : Int).toNat, none⟩) (Kd.R_mono HO_12.out (fun k_ hk => (⟨hk, fun e_ => hk.2 (by rw [e_]; rfl)⟩ : _ ∧ k_ ≠ go39))) (fun _ hk => hk.2) (.int .i64 (wrap64 ((rd x9_2 x15_4) - (rd t351 x15_4))))) (fun _ hk => ⟨hk.1.1, hk.1.2⟩)⟩, ⟨by (with_reducible repeat (first | apply Kd.R_alloc | apply Kd.R_drewN | apply Kd.R_drew)); exact HQ42.out⟩, ⟨by (with_reducible repeat (first | refine blk_drewN ?_ _ | refine blk_drew ?_ | refine blk_alloc ?_ _)); refine blk_far ?_ (by have h_ := Kd.R_ne HO_14.out BK344.out (by decide); intro e_; exact h_ (by rw [e_]; rfl)) _; (with_reducible repeat (first | refine blk_drewN ?_ _ | refine blk_drew ?_ | refine blk_alloc ?_ _)); exact BK344.out⟩, ⟨by repeat (first | (with_reducible first | exact HB.out | apply below_alloc | apply pw_below_drewN | apply below_drew1 | refine below_set ?_ GB39.out | refine below_set ?_ GE344.out) | exact HB.out)⟩⟩
                  ·rw [if_neg c38] at H
                   exact absurd H (by simp)
                 ·rw [if_neg c37] at H
                  exact absurd H (by simp)
                ·rw [if_neg c36] at H
                 exact absurd H (by simp)
               ·rw [if_neg c35] at H
                have c35b0 : decide (x15_4 < (x9_2.length : Int)) = false := decide_eq_false c35
                clear c35
                by_cases c43 : x6_2.length < 5864062014805
                ·rw [if_pos c43] at H
                 have LMc43 := Aside0.mk c43
                 clear c43
                 obtain ⟨y367, hy367⟩ : ∃ y_ : List (List Int), y_ = (x6_2 ++ [x14_4]) := ⟨_, rfl⟩
                 replace H : (if x7_2.length < 8796093022208 then (schismalaw16_list.l1 k4 t345 t346 y367 (x7_2 ++ [(⟨x8_1, x11_2⟩ : S47)]) x8_1 x9_2 (wrap64 (x11_2 + 1)) l0_0 a0_1 l0_2) else (none)) = some (r1, r2) := by first | (rw [hy367]; exact H) | exact H
                 have Ny367 := Aside0.mk hy367
                 clear hy367
                 by_cases c44 : x7_2.length < 8796093022208
                 ·rw [if_pos c44] at H
                  have LMc44 := Aside0.mk c44
                  clear c44
                  obtain ⟨y370, hy370⟩ : ∃ y_ : List (S47), y_ = (x7_2 ++ [(⟨x8_1, x11_2⟩ : S47)]) := ⟨_, rfl⟩
                  replace H : (schismalaw16_list.l1 k4 t345 t346 y367 y370 x8_1 x9_2 (wrap64 (x11_2 + 1)) l0_0 a0_1 l0_2) = some (r1, r2) := by first | (rw [hy370]; exact H) | exact H
                  have Ny370 := Aside0.mk hy370
                  clear hy370
                  have H' := Aside0.mk H
                  clear H
                  obtain ⟨Ao46, co46, eo46⟩ := Kd.R_slice HO_14.out
                  subst eo46
                  go_wp2_with (first | ((with_reducible refine gate_builtin (b := .append) (xs := #[.tmp 92, .tmp 94]) rfl ?_); at_builtin; refine Kd.S_append (Kd.slice 3 (Kd.int .i64)) (w0 := w) w.heap.size rfl (.tmp 92) (.tmp 94) 36 30 (.slice none 0 0) 24 rfl Tryz.underlying36 info30 rfl (by decide) (by omega) u6 x6_2 x14_4 [.slice Ao46 x14_4.length co46] (fun k_ => some k_ ≠ (.slice Ao32 x9_2.length co32 : Value).ownBlock ∧ some k_ ≠ (v353 : Value).ownBlock) (fun k_ => some k_ = (.slice Ao46 x14_4.length co46 : Value).ownBlock) rfl rfl ?aP (fun k_ hk_ => ((Kd.R_mono (ok' := fun k_ => ((fun k_ => some k_ ≠ (.slice Ao32 x9_2.length co32 : Value).ownBlock ∧ some k_ ≠ (v353 : Value).ownBlock)) k_ ∧ some k_ ≠ (u6 : Value).ownBlock) (Kd.R_apart' (HO_14.out) (Kd.S_typed HO_6.out) (by decide)) (fun k_ hk => ⟨⟨hk.1.1, hk.1.2⟩, hk.2⟩))).1 k_ hk_.symm) ?aF ?aO ?aB ?aS ?aL ?_; (case aP => exact Kd.M_row (Kd.R_mono (Kd.R_tight rfl (Kd.R_mono (ok' := fun k_ => ((fun k_ => some k_ ≠ (.slice Ao32 x9_2.length co32 : Value).ownBlock ∧ some k_ ≠ (v353 : Value).ownBlock)) k_ ∧ some k_ ≠ (u6 : Value).ownBlock) (Kd.R_apart' (HO_14.out) (Kd.S_typed HO_6.out) (by decide)) (fun k_ hk => ⟨⟨hk.1.1, hk.1.2⟩, hk.2⟩))) (fun _ h_ => h_))); (case aB => exact (by repeat (first | (with_reducible first | exact HB.out | apply below_alloc | apply pw_below_drewN | apply below_drew1 | refine below_set ?_ GE344.out) | exact HB.out))); (case aF => exact (fun k_ hk => ⟨Kd.fresh' (Kd.R_lt (by (with_reducible repeat (first | apply Kd.R_alloc | apply Kd.R_drewN | apply Kd.R_drew)); exact HO_9.out)) k_ hk, Kd.fresh' (Kd.R_lt (by (with_reducible repeat (first | apply Kd.R_alloc | apply Kd.R_drewN | apply Kd.R_drew)); exact HO_12.out)) k_ hk⟩)); (case aO => exact (by (with_reducible repeat (first | apply Kd.S_alloc | apply Kd.S_drewN | apply Kd.S_drew)); exact Kd.S_mono HO_6.out (fun k_ hk => ⟨⟨hk.1, hk.2.1⟩, fun e_ => hk.2.2 e_⟩))); (case aS => exact (below_size (by repeat (first | (with_reducible first | exact HB.out | apply below_alloc | apply pw_below_drewN | apply below_drew1 | refine below_set ?_ GE344.out) | exact HB.out)))); (case aL => have := LMc43.out; omega); intro v368 w45 ho hb hg hat; rw [← Ny367.out] at ho; have n0_ := Aside0.mk (Kd.R_over' (by (with_reducible repeat (first | apply Kd.R_alloc | apply Kd.R_drewN | apply Kd.R_drew)); exact HO_7.out) (Kd.S_typed (by (with_reducible repeat (first | apply Kd.S_alloc | apply Kd.S_drewN | apply Kd.S_drew)); exact HO_6.out)) (by decide) hg); have n1_ := Aside0.mk (Kd.R_over' (by (with_reducible repeat (first | apply Kd.R_alloc | apply Kd.R_drewN | apply Kd.R_drew)); exact HO_9.out) (Kd.S_typed (by (with_reducible repeat (first | apply Kd.S_alloc | apply Kd.S_drewN | apply Kd.S_drew)); exact HO_6.out)) (by decide) hg); have n2_ := Aside0.mk (Kd.R_over' (by (with_reducible repeat (first | apply Kd.R_alloc | apply Kd.R_drewN | apply Kd.R_drew)); exact HO_12.out) (Kd.S_typed (by (with_reducible repeat (first | apply Kd.S_alloc | apply Kd.S_drewN | apply Kd.S_drew)); exact HO_6.out)) (by decide) hg); have n3_ := Aside0.mk (blk_grown (g := gb344) (o := .cells #[.slice A0_0 l0_0.length c0_0, .int .i64 a0_1, .slice A0_2 l0_2.length c0_2] 32 (0, 0)) (by (with_reducible repeat (first | refine blk_drewN ?_ _ | refine blk_drew ?_ | refine blk_alloc ?_ _)); exact BK344.out) hg (Kd.S_ne HO_6.out BK344.out (by decide))); have n4_ := Aside0.mk (hb); have n5_ := Aside0.mk (ho); clear HO_7; clear HO_9; clear HO_12; clear BK344; clear HB; clear HO_6; clear HO_14; have HO_7 := n0_; have HO_9 := n1_; have HO_12 := n2_; have BK344 := n3_; have HB := n4_; have HO369 := n5_; clear n0_ n1_ n2_ n3_ n4_ n5_; clear ho hb hg hat) | ((with_reducible refine gate_builtin (b := .append) (xs := #[.tmp 96, .tmp 100]) rfl ?_); at_builtin; refine Kd.R_append k47 (w0 := w) w.heap.size rfl (.tmp 96) (.tmp 100) 40 47 (.agg #[(.int .i64 0), (.int .i64 0)]) 16 rfl Tryz.underlying40 info47 rfl (by decide) (by omega) u7 x7_2 (⟨x8_1, x11_2⟩ : S47) [.int .i64 x8_1, .int .i64 x11_2] (fun _ => True) (fun _ => False) rfl rfl ?aP (fun _ hk => hk.elim) ?aF ?aO ?aB ?aS ?aL ?_; (case aP => exact k47_mkM _ _ _ (⟨x8_1, x11_2⟩ : S47)); (case aB => exact (by repeat (first | (with_reducible first | exact HB.out | apply below_alloc | apply pw_below_drewN | apply below_drew1 | refine below_set ?_ GE344.out) | exact HB.out))); (case aF => exact (fun _ _ => trivial)); (case aO => exact (by (with_reducible repeat (first | apply Kd.R_alloc | apply Kd.R_drewN | apply Kd.R_drew)); exact HO_7.out)); (case aS => exact (below_size (by repeat (first | (with_reducible first | exact HB.out | apply below_alloc | apply pw_below_drewN | apply below_drew1 | refine below_set ?_ GE344.out) | exact HB.out)))); (case aL => have := LMc44.out; omega); intro v371 w47 ho hb hg hat; rw [← Ny370.out] at ho; have n0_ := Aside0.mk (Kd.R_over' (by (with_reducible repeat (first | apply Kd.R_alloc | apply Kd.R_drewN | apply Kd.R_drew)); exact HO_9.out) (Kd.R_typed (by (with_reducible repeat (first | apply Kd.R_alloc | apply Kd.R_drewN | apply Kd.R_drew)); exact HO_7.out)) (by decide) hg); have n1_ := Aside0.mk (Kd.R_over' (by (with_reducible repeat (first | apply Kd.R_alloc | apply Kd.R_drewN | apply Kd.R_drew)); exact HO_12.out) (Kd.R_typed (by (with_reducible repeat (first | apply Kd.R_alloc | apply Kd.R_drewN | apply Kd.R_drew)); exact HO_7.out)) (by decide) hg); have n2_ := Aside0.mk (blk_grown (g := gb344) (o := .cells #[.slice A0_0 l0_0.length c0_0, .int .i64 a0_1, .slice A0_2 l0_2.length c0_2] 32 (0, 0)) (by (with_reducible repeat (first | refine blk_drewN ?_ _ | refine blk_drew ?_ | refine blk_alloc ?_ _)); exact BK344.out) hg (Kd.R_ne HO_7.out BK344.out (by decide))); have n3_ := Aside0.mk (Kd.S_over' (by (with_reducible repeat (first | apply Kd.S_alloc | apply Kd.S_drewN | apply Kd.S_drew)); exact HO369.out) (Kd.R_typed (by (with_reducible repeat (first | apply Kd.R_alloc | apply Kd.R_drewN | apply Kd.R_drew)); exact HO_7.out)) (by decide) hg); have n4_ := Aside0.mk (hb); have n5_ := Aside0.mk (ho); clear HO_9; clear HO_12; clear BK344; clear HO369; clear HB; clear HO_7; have HO_9 := n0_; have HO_12 := n1_; have BK344 := n2_; have HO369 := n3_; have HB := n4_; have HO372 := n5_; clear n0_ n1_ n2_ n3_ n4_ n5_; clear ho hb hg hat))
                  go_roundg k4
                  case measure => have := HK1.out; have := HK2.out; have := HJ12.out; have := HK4.out; omega
                  case rel => exact ⟨(y367), (y370), (x9_2), (wrap64 (x11_2 + 1)), (by first | rfl | (simp; done) | (simp [*]; done)), H', ⟨by have := HK1.out; have := HK2.out; have := HJ12.out; have := HK4.out; omega⟩, ⟨by (with_reducible repeat (first | apply Kd.S_alloc | apply Kd.S_drewN | apply Kd.S_drew)); exact Kd.S_mono HO369.out (fun _ hk => hk.1)⟩, ⟨by (with_reducible repeat (first | apply Kd.R_alloc | apply Kd.R_drewN | apply Kd.R_drew)); exact HO372.out⟩, ⟨by (with_reducible repeat (first | apply Kd.R_alloc | apply Kd.R_drewN | apply Kd.R_drew)); exact Kd.R_mono HO_9.out (fun _ hk => trivial)⟩, ⟨by (with_reducible repeat (first | refine blk_drewN ?_ _ | refine blk_drew ?_ | refine blk_alloc ?_ _)); exact BK344.out⟩, ⟨by repeat (first | (with_reducible first | exact HB.out | apply below_alloc | apply pw_below_drewN | apply below_drew1 | refine below_set ?_ GE344.out) | exact HB.out)⟩⟩
                 ·rw [if_neg c44] at H
                  exact absurd H (by simp)
                ·rw [if_neg c43] at H
                 exact absurd H (by simp)
            ·rw [if_neg c31] at H
             exact absurd H (by simp)
           ·rw [if_neg c30] at H
            exact absurd H (by simp)
       ·rw [if_neg c11] at H
        have c11b0 : decide (x11_2 < x8_1) = false := decide_eq_false c11
        clear c11
        have H' := Aside0.mk H
        clear H
        go_wp2
        go_roundg k2
        case measure => have := HK1.out; have := HK2.out; omega
        case rel => exact ⟨(x6_2), (x7_2), (wrap64 (x8_1 + 1)), (by first | rfl | (simp; done) | (simp [*]; done)), H', ⟨by have := HK1.out; have := HK2.out; omega⟩, ⟨by (with_reducible repeat (first | apply Kd.S_alloc | apply Kd.S_drewN | apply Kd.S_drew)); exact Kd.S_mono HO_6.out (fun _ hk => trivial)⟩, ⟨by (with_reducible repeat (first | apply Kd.R_alloc | apply Kd.R_drewN | apply Kd.R_drew)); exact HO_7.out⟩, ⟨by (with_reducible repeat (first | refine blk_drewN ?_ _ | refine blk_drew ?_ | refine blk_alloc ?_ _)); exact BK344.out⟩, ⟨by repeat (first | (with_reducible first | exact HB.out | apply below_alloc | apply pw_below_drewN | apply below_drew1 | refine below_set ?_ GE344.out) | exact HB.out)⟩⟩
    ·replace c8 := Bool.eq_false_iff.mpr c8
     subst c8
     have H1 : (schismalaw16_list.l0 k1 t345 t346 x6_1 x7_1 (wrap64 (x8_1 + 1)) l0_0 a0_1 l0_2) = some (r1, r2) := by rw [if_neg (show ¬ (false = true) by decide)] at H; exact H
     clear H
     have H := H1
     clear H1
     have H' := Aside0.mk H
     clear H
     have hcz48_0 : wr.cell? ⟨gb344, 0, none⟩ = some (.slice A0_0 l0_0.length c0_0) := (blk_cell BK344.out 0).trans rfl
     have hcz48_1 : wr.cell? ⟨gb344, 1, none⟩ = some (.int .i64 a0_1) := (blk_cell BK344.out 1).trans rfl
     have hcz48_2 : wr.cell? ⟨gb344, 2, none⟩ = some (.slice A0_2 l0_2.length c0_2) := (blk_cell BK344.out 2).trans rfl
     have hfz48_0 := blk_frozen BK344.out 0
     have hfz48_1 := blk_frozen BK344.out 1
     have hfz48_2 := blk_frozen BK344.out 2
     go_wp2_with (first | ((with_reducible refine gate_callee (f := 45) rfl ?_); refine goesL_ (some 34) rfl rfl Tryz.func45 (by kernel_rfl) rfl #[.slice A0_0 l0_0.length c0_0, .int .i64 x8_1] rfl (by (try simp only [List.map_toArray, List.map_cons, List.map_nil]); first | done | rfl | (simp only [List.length_drop, List.length_take]; rfl)) ?_; (with_reducible refine (schismalaw16_exponents.calls k1 _ _ l0_0 x8_1 t347 false _ ?side1 ?side2 A7.out).mono ?_); (case side1 => repeat (first | exact (Kd.C_below HR0_0.out HB.out) | (with_reducible refine Kd.C_alloc ?_ _) | (with_reducible refine Kd.C_drewN ?_ _) | (with_reducible refine Kd.C_drew ?_))); (case side2 => exact HC0_0.out); rintro e w49 ⟨v349, rfl, ho0, hb⟩; refine ⟨_, rfl, ?_⟩; have n0_ := Aside0.mk (Kd.S_elder' (by (with_reducible repeat (first | apply Kd.S_alloc | apply Kd.S_drewN | apply Kd.S_drew)); exact HO_6.out) (Kd.R_base ho0) hb); have n1_ := Aside0.mk (Kd.R_below (by (with_reducible repeat (first | apply Kd.R_alloc | apply Kd.R_drewN | apply Kd.R_drew)); exact HO_7.out) hb); have n2_ := Aside0.mk (Kd.R_lower ho0 (below_size (by repeat (first | (with_reducible first | exact HB.out | apply below_alloc | apply pw_below_drewN | apply below_drew1 | refine below_set ?_ GE344.out) | exact HB.out)))); have n3_ := Aside0.mk (blk_below (g := gb344) (o := .cells #[.slice A0_0 l0_0.length c0_0, .int .i64 a0_1, .slice A0_2 l0_2.length c0_2] 32 (0, 0)) (by (with_reducible repeat (first | refine blk_drewN ?_ _ | refine blk_drew ?_ | refine blk_alloc ?_ _)); exact BK344.out) hb); have n4_ := Aside0.mk (below_step (by repeat (first | (with_reducible first | exact HB.out | apply below_alloc | apply pw_below_drewN | apply below_drew1 | refine below_set ?_ GE344.out) | exact HB.out)) hb); clear HO_6; clear HO_7; clear BK344; clear HB; have HO_6 := n0_; have HO_7 := n1_; have HO350 := n2_; have BK344 := n3_; have HB := n4_; clear n0_ n1_ n2_ n3_ n4_; (try clear hb); (try clear hb2); (try clear hk); (try clear hi); (try clear ho0)))
     go_roundg k1
     case measure => have := HK1.out; omega
     case rel => exact ⟨(x6_1), (x7_1), (wrap64 (x8_1 + 1)), (by first | rfl | (simp; done) | (simp [*]; done)), H', ⟨by have := HK1.out; omega⟩, ⟨by (with_reducible repeat (first | apply Kd.S_alloc | apply Kd.S_drewN | apply Kd.S_drew)); exact Kd.S_mono HO_6.out (fun _ hk => trivial)⟩, ⟨by (with_reducible repeat (first | apply Kd.R_alloc | apply Kd.R_drewN | apply Kd.R_drew)); exact HO_7.out⟩, ⟨by (with_reducible repeat (first | refine blk_drewN ?_ _ | refine blk_drew ?_ | refine blk_alloc ?_ _)); exact BK344.out⟩, ⟨by repeat (first | (with_reducible first | exact HB.out | apply below_alloc | apply pw_below_drewN | apply below_drew1 | refine below_set ?_ GE344.out) | exact HB.out)⟩⟩
   ·rw [if_neg c6] at H
    have c6b0 : decide (x8_1 ≤ a0_1) = false := decide_eq_false c6
    clear c6
    simp only [Option.some.injEq, Prod.mk.injEq] at H
    obtain ⟨rfl, rfl⟩ := H
    have hcz50_0 : wr.cell? ⟨gb344, 0, none⟩ = some (.slice A0_0 l0_0.length c0_0) := (blk_cell BK344.out 0).trans rfl
    have hcz50_1 : wr.cell? ⟨gb344, 1, none⟩ = some (.int .i64 a0_1) := (blk_cell BK344.out 1).trans rfl
    have hcz50_2 : wr.cell? ⟨gb344, 2, none⟩ = some (.slice A0_2 l0_2.length c0_2) := (blk_cell BK344.out 2).trans rfl
    have hfz50_0 := blk_frozen BK344.out 0
    have hfz50_1 := blk_frozen BK344.out 1
    have hfz50_2 := blk_frozen BK344.out 2
    go_wp2
    go_ret2
    exact ⟨_, _, by first | rfl | (simp [errW_none, errW_some] <;> rfl) | (simp [*, errW_none, errW_some] <;> rfl), by (with_reducible repeat (first | apply Kd.S_alloc | apply Kd.S_drewN | apply Kd.S_drew)); exact HO_6.out, by (with_reducible repeat (first | apply Kd.R_alloc | apply Kd.R_drewN | apply Kd.R_drew)); exact HO_7.out, by repeat (first | (with_reducible first | exact HB.out | apply below_alloc | apply pw_below_drewN | apply below_drew1 | refine below_set ?_ GE344.out) | exact HB.out)⟩
def schismalaw12_Primes.f (a0 : Int) : Option (List Int) := (some (([(([2, 3, 5] : List Int)), (([2, 3, 5, 7] : List Int)), (([2, 3] : List Int)), (([2, 3, 7] : List Int)), (([2, 5, 7] : List Int)), (([3, 5, 7] : List Int)), (([2, 3, 5, 11] : List Int)), (([2] : List Int)), (([2, 3, 7, 13] : List Int)), (([3, 5, 7, 13] : List Int))] : List (List Int)) : List (List Int))).bind fun y131 => (if (y131.length : Int) = 0 then (none) else (if 0 ≤ (Int.tmod (wrap64 (a0)) (y131.length : Int)) then (if (Int.tmod (wrap64 (a0)) (y131.length : Int)) < (y131.length : Int) then (some (rd_L1 y131 (Int.tmod (wrap64 (a0)) (y131.length : Int)))) else (none)) else (none)))
theorem schismalaw12_Primes.calls (a0 : Int) (r : List Int) (w : World) (h : schismalaw12_Primes.f a0 = some r) :
  Calls Tryz.prog 49 #[.int .u8 a0] w fun e w' => ∃ v0_ : Value, e = .returned (v0_) ∧ Kd.V (Kd.int .i64) 3 w' w.heap.size (fun k_ => (w.heap.size ≤ k_)) v0_ r ∧ Below w.heap.size w w' := by
 obtain ⟨n, hn, htm, hr⟩ : ∃ n : Nat, n < 10 ∧ Int.tmod (wrap64 a0) 10 = (n : Int) ∧ r = ([[2, 3, 5], [2, 3, 5, 7], [2, 3], [2, 3, 7], [2, 5, 7], [3, 5, 7], [2, 3, 5, 11], [2], [2, 3, 7, 13], [3, 5, 7, 13]] : List (List Int)).getD n [] := by
  unfold schismalaw12_Primes.f at h
  rw [Option.bind_some, if_neg (by decide)] at h
  split at h
  ·rename_i h1
   split at h
   ·rename_i h2
    have h2' : Int.tmod (wrap64 a0) 10 < 10 := h2
    have h1' : 0 ≤ Int.tmod (wrap64 a0) 10 := h1
    refine ⟨(Int.tmod (wrap64 a0) 10).toNat, by omega, by omega, (Option.some.inj h).symm⟩
   ·cases h
  ·cases h
 have HR := Aside0.mk hr
 have hnz : (n : Int) < 10 := by omega
 clear h hr
 go_enter Tryz.func49, Tryz.ntmps49
 go_wp2
 go_ret
 have hr := HR.out
 have hF : ∀ (i : Nat) (W : World) (xs : List Int) (cs : Array Value), W.heap[w.heap.size + i]? = some (.cells cs 3 (0, 0)) → cs = (xs.map (Value.int .i64)).toArray → xs.length ≤ 1000 → Kd.V (Kd.int .i64) 3 W w.heap.size (fun k_ => w.heap.size ≤ k_) (.slice (some ⟨w.heap.size + i, 0, none⟩) xs.length xs.length) xs :=
  fun i W xs cs h1 h2 h3 => Kd.V_mk (Nat.le_refl _) (F_lit xs h1 (by omega) h2 h3)
 clear htm hnz HR
 refine ⟨_, rfl, ?_, by repeat (first | exact Below.refl _ _ | apply below_alloc)⟩
 match n, hn, hr with
 | 0, _, hr => rw [hr]; exact hF 0 _ [2, 3, 5] #[Value.int .i64 2, Value.int .i64 3, Value.int .i64 5] (by simp only [heap_alloc, size_alloc]; repeat (first | (rw [if_pos trivial]) | (rw [if_pos (by omega)]) | (rw [if_neg (by omega)]))) rfl (by decide)
 | 1, _, hr => rw [hr]; exact hF 1 _ [2, 3, 5, 7] #[Value.int .i64 2, Value.int .i64 3, Value.int .i64 5, Value.int .i64 7] (by simp only [heap_alloc, size_alloc]; repeat (first | (rw [if_pos trivial]) | (rw [if_pos (by omega)]) | (rw [if_neg (by omega)]))) rfl (by decide)
 | 2, _, hr => rw [hr]; exact hF 2 _ [2, 3] #[Value.int .i64 2, Value.int .i64 3] (by simp only [heap_alloc, size_alloc]; repeat (first | (rw [if_pos trivial]) | (rw [if_pos (by omega)]) | (rw [if_neg (by omega)]))) rfl (by decide)
 | 3, _, hr => rw [hr]; exact hF 3 _ [2, 3, 7] #[Value.int .i64 2, Value.int .i64 3, Value.int .i64 7] (by simp only [heap_alloc, size_alloc]; repeat (first | (rw [if_pos trivial]) | (rw [if_pos (by omega)]) | (rw [if_neg (by omega)]))) rfl (by decide)
 | 4, _, hr => rw [hr]; exact hF 4 _ [2, 5, 7] #[Value.int .i64 2, Value.int .i64 5, Value.int .i64 7] (by simp only [heap_alloc, size_alloc]; repeat (first | (rw [if_pos trivial]) | (rw [if_pos (by omega)]) | (rw [if_neg (by omega)]))) rfl (by decide)
 | 5, _, hr => rw [hr]; exact hF 5 _ [3, 5, 7] #[Value.int .i64 3, Value.int .i64 5, Value.int .i64 7] (by simp only [heap_alloc, size_alloc]; repeat (first | (rw [if_pos trivial]) | (rw [if_pos (by omega)]) | (rw [if_neg (by omega)]))) rfl (by decide)
 | 6, _, hr => rw [hr]; exact hF 6 _ [2, 3, 5, 11] #[Value.int .i64 2, Value.int .i64 3, Value.int .i64 5, Value.int .i64 11] (by simp only [heap_alloc, size_alloc]; repeat (first | (rw [if_pos trivial]) | (rw [if_pos (by omega)]) | (rw [if_neg (by omega)]))) rfl (by decide)
 | 7, _, hr => rw [hr]; exact hF 7 _ [2] #[Value.int .i64 2] (by simp only [heap_alloc, size_alloc]; repeat (first | (rw [if_pos trivial]) | (rw [if_pos (by omega)]) | (rw [if_neg (by omega)]))) rfl (by decide)
 | 8, _, hr => rw [hr]; exact hF 8 _ [2, 3, 7, 13] #[Value.int .i64 2, Value.int .i64 3, Value.int .i64 7, Value.int .i64 13] (by simp only [heap_alloc, size_alloc]; repeat (first | (rw [if_pos trivial]) | (rw [if_pos (by omega)]) | (rw [if_neg (by omega)]))) rfl (by decide)
 | 9, _, hr => rw [hr]; exact hF 9 _ [3, 5, 7, 13] #[Value.int .i64 3, Value.int .i64 5, Value.int .i64 7, Value.int .i64 13] (by simp only [heap_alloc, size_alloc]; repeat (first | (rw [if_pos trivial]) | (rw [if_pos (by omega)]) | (rw [if_neg (by omega)]))) rfl (by decide)
 | n + 10, hn, _ => omega
def schismalaw12_Make.f (a0_0 : Int) (a0_1 : Int) (a0_2 : Int) (a0_3 : Int) (a0_4 : Int) : Option (List Int × List Int) := (schismalaw12_Primes.f a0_0).bind fun t136 => ((g_Interval.f t136 a0_1 a0_2 a0_3 a0_4).bind fun t139 => (some (t136, t139)))
theorem schismalaw12_Make.calls (a0_0 : Int) (a0_1 : Int) (a0_2 : Int) (a0_3 : Int) (a0_4 : Int) (r1 : List Int) (r2 : List Int) (w : World) (h : schismalaw12_Make.f a0_0 a0_1 a0_2 a0_3 a0_4 = some (r1, r2)) :
  Calls Tryz.prog 19 #[.agg #[.int .u8 a0_0, .int .i8 a0_1, .int .i8 a0_2, .int .i8 a0_3, .int .i8 a0_4]] w fun e w' => ∃ v0_ v1_ : Value, e = .returned (.tuple #[v0_, v1_]) ∧ Kd.V (Kd.int .i64) 3 w' w.heap.size (fun k_ => (w.heap.size ≤ k_) ∧ some k_ ≠ (v1_ : Value).ownBlock) v0_ r1 ∧ Kd.R (Kd.int .i64) 3 w' w.heap.size (fun k_ => (w.heap.size ≤ k_)) v1_ r2 ∧ Below w.heap.size w w' := by
 have hu25 := Tryz.underlying25
 have hu23 := Tryz.underlying23
 have HB := Aside0.mk (Below.refl w.heap.size w)
 have H : ((schismalaw12_Primes.f a0_0).bind fun t136 => ((g_Interval.f t136 a0_1 a0_2 a0_3 a0_4).bind fun t139 => (some (t136, t139)))) = some (r1, r2) := h
 clear h
 replace H := Option.bind_eq_some_iff.mp H
 obtain ⟨t136, A20, H⟩ := H
 replace H : ((g_Interval.f t136 a0_1 a0_2 a0_3 a0_4).bind fun t139 => (some (t136, t139))) = some (r1, r2) := H
 have A2 := Aside0.mk A20
 clear A20
 replace H := Option.bind_eq_some_iff.mp H
 obtain ⟨t139, A30, H⟩ := H
 replace H : (some (t136, t139)) = some (r1, r2) := H
 have A3 := Aside0.mk A30
 clear A30
 simp only [Option.some.injEq, Prod.mk.injEq] at H
 obtain ⟨rfl, rfl⟩ := H
 go_enter Tryz.func19, Tryz.ntmps19
 go_wp2_with (first | ((with_reducible refine gate_dst (N := 1) rfl ?_); refine box_event ?hg (N := 1) ?hd (cs := #[.int .u8 a0_0, .int .i8 a0_1, .int .i8 a0_2, .int .i8 a0_3, .int .i8 a0_4]) (t := 25) ?hr ?_; (case hd => rfl); (case hg => rfl); (case hr => first | (go_simp; done) | (go_simp; rfl)); intro gb135 hg w4 hbox hb; have n0_ := Aside0.mk (below_step (by with_reducible repeat first | exact HB.out | apply below_alloc | apply pw_below_drewN | apply below_drew1) hb); have n1_ := Aside0.mk (hbox); have n2_ := Aside0.mk ((by rw [hg]; exact (below_size (by with_reducible repeat first | exact HB.out | apply below_alloc | apply pw_below_drewN | apply below_drew1)) : w.heap.size ≤ gb135)); have n3_ := Aside0.mk ((by rw [hg]; exact (below_size (by with_reducible repeat first | exact HB.out | apply below_alloc | apply pw_below_drewN | apply below_drew1)) : w.heap.size ≤ gb135)); clear HB; have HB := n0_; have BK135 := n1_; have GW135 := n2_; have GE135 := n3_; clear n0_ n1_ n2_ n3_; clear hb hbox hg; have hcz5_0 : w4.cell? ⟨gb135, 0, none⟩ = some (.int .u8 a0_0) := (blk_cell BK135.out 0).trans rfl; have hcz5_1 : w4.cell? ⟨gb135, 1, none⟩ = some (.int .i8 a0_1) := (blk_cell BK135.out 1).trans rfl; have hcz5_2 : w4.cell? ⟨gb135, 2, none⟩ = some (.int .i8 a0_2) := (blk_cell BK135.out 2).trans rfl; have hcz5_3 : w4.cell? ⟨gb135, 3, none⟩ = some (.int .i8 a0_3) := (blk_cell BK135.out 3).trans rfl; have hcz5_4 : w4.cell? ⟨gb135, 4, none⟩ = some (.int .i8 a0_4) := (blk_cell BK135.out 4).trans rfl; have hfz5_0 := blk_frozen BK135.out 0; have hfz5_1 := blk_frozen BK135.out 1; have hfz5_2 := blk_frozen BK135.out 2; have hfz5_3 := blk_frozen BK135.out 3; have hfz5_4 := blk_frozen BK135.out 4) | ((with_reducible refine gate_callee (f := 49) rfl ?_); refine goesL_ (some 7) rfl rfl Tryz.func49 (by kernel_rfl) rfl #[.int .u8 a0_0] rfl (by (try simp only [List.map_toArray, List.map_cons, List.map_nil]); first | done | rfl | (simp only [List.length_drop, List.length_take]; rfl)) ?_; (with_reducible refine (schismalaw12_Primes.calls a0_0 t136 _ A2.out).mono ?_); rintro e w6 ⟨v137, rfl, ho0, hb⟩; refine ⟨_, rfl, ?_⟩; have n0_ := Aside0.mk (Kd.V_lower (Kd.V_mono (ok' := fun k_ => (w.heap.size ≤ k_) ∧ k_ ≠ gb135) ho0 (fun k_ hk_ => ⟨(Nat.le_trans (below_size (by repeat (first | (with_reducible first | exact HB.out | apply below_alloc | apply pw_below_drewN | apply below_drew1 | refine below_set ?_ GE135.out) | exact HB.out))) hk_), (Kd.freshB (g := gb135) (o := .cells #[.int .u8 a0_0, .int .i8 a0_1, .int .i8 a0_2, .int .i8 a0_3, .int .i8 a0_4] 25 (0, 0)) (by (with_reducible repeat (first | refine blk_drewN ?_ _ | refine blk_drew ?_ | refine blk_alloc ?_ _)); exact BK135.out) k_ hk_)⟩)) (below_size (by repeat (first | (with_reducible first | exact HB.out | apply below_alloc | apply pw_below_drewN | apply below_drew1 | refine below_set ?_ GE135.out) | exact HB.out)))); have n1_ := Aside0.mk (blk_below (g := gb135) (o := .cells #[.int .u8 a0_0, .int .i8 a0_1, .int .i8 a0_2, .int .i8 a0_3, .int .i8 a0_4] 25 (0, 0)) (by (with_reducible repeat (first | refine blk_drewN ?_ _ | refine blk_drew ?_ | refine blk_alloc ?_ _)); exact BK135.out) hb); have n2_ := Aside0.mk (below_step (by repeat (first | (with_reducible first | exact HB.out | apply below_alloc | apply pw_below_drewN | apply below_drew1 | refine below_set ?_ GE135.out) | exact HB.out)) hb); clear BK135; clear HB; have HO138 := n0_; have BK135 := n1_; have HB := n2_; clear n0_ n1_ n2_; (try clear hb); (try clear hb2); (try clear hk); (try clear hi); (try clear ho0); have hcz7_0 : w6.cell? ⟨gb135, 0, none⟩ = some (.int .u8 a0_0) := (blk_cell BK135.out 0).trans rfl; have hcz7_1 : w6.cell? ⟨gb135, 1, none⟩ = some (.int .i8 a0_1) := (blk_cell BK135.out 1).trans rfl; have hcz7_2 : w6.cell? ⟨gb135, 2, none⟩ = some (.int .i8 a0_2) := (blk_cell BK135.out 2).trans rfl; have hcz7_3 : w6.cell? ⟨gb135, 3, none⟩ = some (.int .i8 a0_3) := (blk_cell BK135.out 3).trans rfl; have hcz7_4 : w6.cell? ⟨gb135, 4, none⟩ = some (.int .i8 a0_4) := (blk_cell BK135.out 4).trans rfl; have hfz7_0 := blk_frozen BK135.out 0; have hfz7_1 := blk_frozen BK135.out 1; have hfz7_2 := blk_frozen BK135.out 2; have hfz7_3 := blk_frozen BK135.out 3; have hfz7_4 := blk_frozen BK135.out 4; obtain ⟨Ao8, co8, eo8⟩ := Kd.V_slice HO138.out; subst eo8) | ((with_reducible refine gate_callee (f := 20) rfl ?_); refine goesL_ (some 12) rfl rfl Tryz.func20 (by kernel_rfl) rfl #[.slice Ao8 t136.length co8, .agg #[.int .i8 a0_1, .int .i8 a0_2, .int .i8 a0_3, .int .i8 a0_4]] rfl (by (try simp only [List.map_toArray, List.map_cons, List.map_nil]); first | done | rfl | (simp only [List.length_drop, List.length_take]; rfl)) ?_; (with_reducible refine (g_Interval.calls _ _ t136 a0_1 a0_2 a0_3 a0_4 t139 _ ?side1 ?side2 A3.out).mono ?_); (case side1 => repeat (first | exact (Kd.V_reads' HO138.out).2.2 | (with_reducible refine Kd.C_alloc ?_ _) | (with_reducible refine Kd.C_drewN ?_ _) | (with_reducible refine Kd.C_drew ?_))); (case side2 => exact (Kd.V_reads' HO138.out).2.1); rintro e w9 ⟨v140, rfl, ho0, hb⟩; refine ⟨_, rfl, ?_⟩; have n0_ := Aside0.mk (Kd.V_elder' (by (with_reducible repeat (first | apply Kd.V_alloc | apply Kd.V_drewN | apply Kd.V_drew)); exact HO138.out) (Kd.R_base ho0) hb); have n1_ := Aside0.mk (Kd.R_lower (Kd.R_newM (M := fun k_ => (w.heap.size ≤ k_)) ho0 (below_size (by repeat (first | (with_reducible first | exact HB.out | apply below_alloc | apply pw_below_drewN | apply below_drew1 | refine below_set ?_ GE135.out) | exact HB.out))) (fun k_ h_ => h_)) (below_size (by repeat (first | (with_reducible first | exact HB.out | apply below_alloc | apply pw_below_drewN | apply below_drew1 | refine below_set ?_ GE135.out) | exact HB.out)))); have n2_ := Aside0.mk (blk_below (g := gb135) (o := .cells #[.int .u8 a0_0, .int .i8 a0_1, .int .i8 a0_2, .int .i8 a0_3, .int .i8 a0_4] 25 (0, 0)) (by (with_reducible repeat (first | refine blk_drewN ?_ _ | refine blk_drew ?_ | refine blk_alloc ?_ _)); exact BK135.out) hb); have n3_ := Aside0.mk (below_step (by repeat (first | (with_reducible first | exact HB.out | apply below_alloc | apply pw_below_drewN | apply below_drew1 | refine below_set ?_ GE135.out) | exact HB.out)) hb); clear HO138; clear BK135; clear HB; have HO138 := n0_; have HO141 := n1_; have BK135 := n2_; have HB := n3_; clear n0_ n1_ n2_ n3_; (try clear hb); (try clear hb2); (try clear hk); (try clear hi); (try clear ho0)))
 go_ret2
 exact ⟨_, _, by first | rfl | (simp [errW_none, errW_some] <;> rfl) | (simp [*, errW_none, errW_some] <;> rfl), by (with_reducible repeat (first | apply Kd.V_alloc | apply Kd.V_drewN | apply Kd.V_drew)); exact Kd.V_mono HO138.out (fun _ hk => ⟨hk.1.1, hk.2⟩), by (with_reducible repeat (first | apply Kd.R_alloc | apply Kd.R_drewN | apply Kd.R_drew)); exact Kd.R_mono HO141.out (fun _ hk => hk.1), by repeat (first | (with_reducible first | exact HB.out | apply below_alloc | apply pw_below_drewN | apply below_drew1 | refine below_set ?_ GE135.out) | exact HB.out)⟩
end Go.Proofs.YtobdccgpbohpiaaGreatDoor.F
