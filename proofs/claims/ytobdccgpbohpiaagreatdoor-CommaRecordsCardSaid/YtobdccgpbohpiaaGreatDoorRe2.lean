/- Re: a part of the proof. -/
import Derived.Lib.ItoaNum
import Derived.Lib.LaidTab
import Derived.Outline
import Derived.Test.YtobdccgpbohpiaaGreatDoorProg
import Derived.Test.YtobdccgpbohpiaaGreatDoorRe1
import Derived.WalkSmall
set_option linter.unusedVariables false
set_option linter.unusedSimpArgs false
namespace Go.Proofs.YtobdccgpbohpiaaGreatDoor
open Go.RowKit Go.Proofs.YtobdccgpbohpiaaGreatDoorW.PrintWords Go.Proofs.YtobdccgpbohpiaaGreatDoorW.PrintLast Go.Proofs.YtobdccgpbohpiaaGreatDoorW.PrintMore
structure Glob (w : World) : Prop where
  tab : Lib.TabIs Tryz.prog w "internal/strconv.uint64pow10" .u64 Lib.pow10Tab
  rng : ∃ tp p, w.var? Tryz.prog "strconv.ErrRange" = some #[.iface tp p]
theorem var_lt {w : World} {n : String} {g : Nat} {cs : Array Value} (hg : Tryz.prog.globalNamed n = some g) (h : w.var? Tryz.prog n = some cs) : g < w.heap.size := by
  unfold World.var? at h
  rw [hg, Option.bind_some] at h
  by_cases hl : g < w.heap.size
  · exact hl
  · rw [Array.getElem?_eq_none (by omega)] at h
    cases h
theorem g_some (n : String) (h : (Tryz.prog.globalNamed n).isSome = true) : ∃ g, Tryz.prog.globalNamed n = some g := Option.isSome_iff_exists.1 h
theorem g_tab : ∃ g, Tryz.prog.globalNamed "internal/strconv.uint64pow10" = some g := g_some _ (by kernel_rfl)
theorem g_rng : ∃ g, Tryz.prog.globalNamed "strconv.ErrRange" = some g := g_some _ (by kernel_rfl)
theorem Glob.below {w w' : World} (h : Glob w) (hb : Below w.heap.size w w') : Glob w' := by
  obtain ⟨g, hg⟩ := g_tab
  obtain ⟨q, hq⟩ := g_rng
  refine ⟨var?_below hb hg (var_lt hg h.tab) h.tab, ?_⟩
  obtain ⟨tp, p, hr⟩ := h.rng
  exact ⟨tp, p, var?_below hb hq (var_lt hq hr) hr⟩
theorem info3 : (Tryz.prog.info? 3).map (fun i => (i.zero, i.size, i.bytes)) = some (some (.int .i64 0), 1, 8) := by kernel_rfl
def g_Interval.f (l : List Int) (a0 a1 a2 a3 : Int) : Option (List Int) := some (((([a0, a1, a2, a3] : List Int).map fun x => Int.tmod (wrap64 x) 10)).take l.length)
set_option maxHeartbeats 1000000 in
set_option maxRecDepth 100000 in
theorem g_Interval.calls (A0 : Option Addr) (c0 : Nat) (l0 : List Int) (a1_0 a1_1 a1_2 a1_3 : Int) (r : List Int) (w : World) (hr0 : Kd.C (Kd.int .i64) w A0 l0.length l0) (hc0 : l0.length ≤ c0) (h : g_Interval.f l0 a1_0 a1_1 a1_2 a1_3 = some r) :
    Calls Tryz.prog 20 #[.slice A0 l0.length c0, .agg #[.int .i8 a1_0, .int .i8 a1_1, .int .i8 a1_2, .int .i8 a1_3]] w fun e w' => ∃ v0_ : Value, e = .returned (v0_) ∧ Kd.R (Kd.int .i64) 3 w' w.heap.size (fun _ => True) v0_ r ∧ Below w.heap.size w w' := by
  unfold g_Interval.f at h
  obtain ⟨bs, has⟩ : ∃ bs : List Int, bs = [a1_0, a1_1, a1_2, a1_3] := ⟨_, rfl⟩
  have hlen : bs.length = 4 := by rw [has]; rfl
  rw [← has] at h
  have hr := Option.some.inj h
  have HR := Aside0.mk hr
  have HA := Aside0.mk has
  clear h hr hc0
  have hn0 := hr0.2.1
  clear hr0
  have hcell0 : ∀ m, m < 4 → (w.alloc (Obj.cells #[Value.int IntKind.i8 a1_0, Value.int IntKind.i8 a1_1, Value.int IntKind.i8 a1_2, Value.int IntKind.i8 a1_3] 23)).cell? ⟨w.heap.size, m, none⟩ = some (.int .i8 (bs.getD m 0)) := by
    intro m hm
    rw [has]
    match m, hm with
    | 0, _ => simp
    | 1, _ => simp
    | 2, _ => simp
    | 3, _ => simp
  have HC := Aside0.mk hcell0
  clear hcell0 has
  obtain ⟨w1, hw1⟩ : ∃ w1, w1 = w.alloc (Obj.cells #[Value.int IntKind.i8 a1_0, Value.int IntKind.i8 a1_1, Value.int IntKind.i8 a1_2, Value.int IntKind.i8 a1_3] 23) := ⟨_, rfl⟩
  rw [← hw1] at HC
  have hs1 : w1.heap.size = w.heap.size + 1 := by rw [hw1]; simp
  have HS1 := Aside0.mk hs1
  have HW1 := Aside0.mk hw1
  clear hs1
  have hB1 : Below w.heap.size w w1 := by rw [hw1]; exact (Below.refl _ _).alloc (Nat.le_refl _) _
  have HB1 := Aside0.mk hB1
  clear hB1
  go_enter Tryz.func20, Tryz.ntmps20
  go_wp2
  rw [← hw1]
  clear hw1
  go_loopw [5, 6] (fun v5 v6 wr => ∃ (m : Nat) (ys : List Int), v6 = .int .i64 m ∧ m ≤ 4 ∧ Aside0 (m ≤ l0.length) ∧ Aside0 (ys = (bs.map fun x => Int.tmod (wrap64 x) 10).take m) ∧ Aside0 (Kd.R (Kd.int .i64) 3 wr w1.heap.size (fun _ => True) v5 ys) ∧ Aside0 (Below w1.heap.size w1 wr)) (fun _ v6 _ => 4 - (intOf v6).toNat)
  case atStart => exact ⟨0, [], rfl, by omega, ⟨by omega⟩, ⟨by simp⟩, ⟨Kd.R_nil _ _ _ _ _⟩, ⟨Below.refl _ _⟩⟩
  case round =>
    obtain ⟨m, ys, rfl, hm4, hml, HY, HO, HB⟩ := hrel
    by_cases hlt : m < l0.length ∧ m < 4
    · obtain ⟨hl1, hl2⟩ := hlt
      have hc := (HB.out.cell (p := ⟨w.heap.size, m, none⟩) (by rw [HS1.out]; exact Nat.lt_succ_self _)).trans (HC.out m hl2)
      obtain ⟨z, hz⟩ : ∃ z, z = bs.getD m 0 := ⟨_, rfl⟩
      rw [← hz] at hc
      have HZ := Aside0.mk hz
      clear hz
      go_wp2_with (first | ((with_reducible refine gate_builtin (b := .append) (xs := #[.tmp 17, .tmp 23]) rfl ?_); at_builtin; refine Kd.R_append (Kd.int .i64) (w0 := w1) w1.heap.size rfl (.tmp 17) (.tmp 23) 30 3 (.int .i64 0) 8 rfl Tryz.underlying30 info3 rfl (by decide) (by omega) u5 ys (Int.tmod (wrap64 z) 10) [.int .i64 (Int.tmod (wrap64 z) 10)] (fun _ => True) (fun _ => False) rfl rfl ?aP (fun _ hk => hk.elim) ?aF ?aO ?aB ?aS ?aL ?_; (case aP => exact rfl); (case aF => exact (fun _ _ => trivial)); (case aO => exact HO.out); (case aB => exact HB.out); (case aS => exact HB.out.size); (case aL => rw [HY.out]; have h_ : ((bs.map fun x => Int.tmod (wrap64 x) 10).take m).length ≤ m := List.length_take_le _ _; omega); intro v1 w2 ho hb hg hat; have HO1 := Aside0.mk ho; have HB2 := Aside0.mk hb; clear ho hb hg hat))
      go_roundw
      case measure => simp [intOf]; omega
      case rel =>
        have e : (bs.map fun x => Int.tmod (wrap64 x) 10).take (m + 1) = (bs.map fun x => Int.tmod (wrap64 x) 10).take m ++ [Int.tmod (wrap64 z) 10] := by
          rw [List.take_succ_eq_append_getElem (by simp; omega)]
          simp [HZ.out, List.getElem?_eq_getElem (show m < bs.length by omega)]
        exact ⟨m + 1, _, by go_num, by omega, ⟨by omega⟩, ⟨by rw [e, ← HY.out]⟩, HO1, HB2⟩
    · go_wp2
      all_goals go_ret
      all_goals refine ⟨_, rfl, ?_, HB1.out.trans (HB.out.mono (by rw [HS1.out]; omega))⟩
      all_goals
        have e : r = (bs.map fun x => Int.tmod (wrap64 x) 10).take m := by
          rw [← HR.out]
          have hm' := hml.out
          by_cases h4 : m = 4
          · subst h4
            rw [List.take_of_length_le (by simp; omega), List.take_of_length_le (by simp; omega)]
          · have : l0.length = m := by omega
            rw [this]
        rw [e, ← HY.out]
        exact Kd.R_lower HO.out (by rw [HS1.out]; omega)
end Go.Proofs.YtobdccgpbohpiaaGreatDoor
