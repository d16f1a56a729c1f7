/- Ch: a part of the proof. -/
import Derived.Test.YtobdccgpbohpiaaGreatDoorCh14
import Derived.Test.YtobdccgpbohpiaaGreatDoorCh16
import Derived.Test.YtobdccgpbohpiaaGreatDoorCh20
import Derived.Test.YtobdccgpbohpiaaGreatDoorCh22
import Derived.Test.YtobdccgpbohpiaaGreatDoorCh35
set_option linter.unusedVariables false
set_option linter.unusedSimpArgs false
namespace Go.Proofs.YtobdccgpbohpiaaGreatDoor
open Go.RowKit Go.Lib F Go.Proofs.YtobdccgpbohpiaaGreatDoorW.PrintWords Go.Proofs.YtobdccgpbohpiaaGreatDoorW.PrintLast Go.Proofs.YtobdccgpbohpiaaGreatDoorW.PrintMore
set_option maxRecDepth 100000 in
set_option maxHeartbeats 4000000 in
theorem add_calls (k : Nat) (a b r : ByteArray) (x y z : Int) (w : World) (hG : Glob w) (h1 : decimal_both.f k a b = some (x, y, true)) (hz : IntKind.u64.wrap (x + y) = z) (h2 : g_decimal_Of.f z = some r) :
    Calls Tryz.prog 94 #[.string a, .string b] w fun e w' => e = .returned (.string r) ∧ Below w.heap.size w w' := by
  have HG := Aside0.mk hG
  have H1 := Aside0.mk h1
  have H2 := Aside0.mk h2
  clear hG h1 h2
  go_enter Tryz.func94, Tryz.ntmps94
  go_wp2_with (first
    | (go_at_call 111; (with_reducible refine (decimal_both.calls k a b x y true _ H1.out).mono ?_); rintro e w1 ⟨rfl, hb⟩; have HB1 := Aside0.mk hb; clear hb)
    | (go_at_call 91; (with_reducible refine (g_decimal_Of.calls z r _ (Glob.below HG.out HB1.out) H2.out).mono ?_); rintro e w2 ⟨rfl, hb⟩; have HB2 := Aside0.mk (below_step HB1.out hb); clear hb))
  go_ret
  exact ⟨rfl, HB2.out⟩
abbrev one1 : ByteArray := ⟨#[49]⟩
structure Super (p : List Int) (x : List Int) (sp : Bool) : Prop where
  ex : ∃ (k : Nat) (num den t : ByteArray) (a b z : Int), monzo_Check.f k p x = some 0 ∧ monzo_sides.f k p x = some (num, den) ∧ decimal_both.f k den one1 = some (a, b, true) ∧ IntKind.u64.wrap (a + b) = z ∧ g_decimal_Of.f z = some t ∧ sp = (num.toList == t.toList)
set_option maxRecDepth 100000 in
set_option maxHeartbeats 4000000 in
theorem super_calls (A0 : Option Addr) (c0 : Nat) (p : List Int) (A1 : Option Addr) (c1 : Nat) (x : List Int) (sp : Bool) (w : World) (hG : Glob w) (hr0 : Kd.C (Kd.int .i64) w A0 p.length p) (hc0 : p.length ≤ c0) (hr1 : Kd.C (Kd.int .i64) w A1 x.length x) (hc1 : x.length ≤ c1) (h : Super p x sp) :
    Calls Tryz.prog 62 #[.slice A0 p.length c0, .slice A1 x.length c1] w fun e w' => e = .returned (.tuple #[.bool sp, .int .i64 0]) ∧ Below w.heap.size w w' := by
  obtain ⟨k, num, den, t, a, b, z, h1, h2, h3, h4, h5, rfl⟩ := h.ex
  have HG := Aside0.mk hG
  have HR0 := Aside0.mk hr0
  have HC0 := Aside0.mk hc0
  have HR1 := Aside0.mk hr1
  have HC1 := Aside0.mk hc1
  have H1 := Aside0.mk h1
  have H2 := Aside0.mk h2
  have H3 := Aside0.mk h3
  have H4 := Aside0.mk h4
  have H5 := Aside0.mk h5
  clear hG hr0 hc0 hr1 hc1 h h1 h2 h3 h4 h5
  go_enter Tryz.func62, Tryz.ntmps62
  go_wp2_with (first
    | (go_at_call 55; (with_reducible refine (monzo_Check.calls k A0 c0 p (fun k_ => k_ < w.heap.size) A1 c1 x 0 w HR0.out HC0.out ?s H1.out).mono ?_); (case s => exact Kd.V_mk HC1.out (Kd.C_F (Kd.heap_int .i64) HR1.out)); rintro e w1 ⟨rfl, hb⟩; have HB1 := Aside0.mk hb; clear hb)
    | (go_at_call 57; (with_reducible refine (monzo_sides.calls k A0 c0 p A1 c1 x num den w1 (Glob.below HG.out HB1.out) (Kd.C_below HR0.out HB1.out) HC0.out (Kd.C_below HR1.out HB1.out) HC1.out H2.out).mono ?_); rintro e w2 ⟨rfl, hb⟩; have HB2 := Aside0.mk (below_step HB1.out hb); clear hb)
    | (go_at_call 94; (with_reducible refine (add_calls k den one1 t a b z w2 (Glob.below HG.out HB2.out) H3.out H4.out H5.out).mono ?_); rintro e w3 ⟨rfl, hb⟩; have HB3 := Aside0.mk (below_step HB2.out hb); clear hb))
  go_ret2
  exact ⟨rfl, HB3.out⟩
set_option maxRecDepth 100000 in
set_option maxHeartbeats 4000000 in
theorem superDel_calls (g : Nat) (A0 : Option Addr) (c0 : Nat) (p : List Int) (A1 : Option Addr) (c1 : Nat) (x : List Int) (sp : Bool) (w : World) (hG : Glob w) (hq : w.cell? ⟨g, 0, none⟩ = some (.slice A0 p.length c0)) (hr0 : Kd.C (Kd.int .i64) w A0 p.length p) (hc0 : p.length ≤ c0) (hr1 : Kd.C (Kd.int .i64) w A1 x.length x) (hc1 : x.length ≤ c1) (h : Super p x sp) :
    Calls Tryz.prog 61 (#[.slice A1 x.length c1] ++ #[.pointer (some ⟨g, 0, none⟩)]) w fun e w' => e = .returned (.bool (!sp)) ∧ Below w.heap.size w w' := by
  have HR := Aside0.mk (super_calls A0 c0 p A1 c1 x sp w hG hr0 hc0 hr1 hc1 h)
  clear hG hr0 hc0 hr1 hc1 h
  show Calls Tryz.prog 61 #[.slice A1 x.length c1, .pointer (some ⟨g, 0, none⟩)] w _
  go_enter Tryz.func61, Tryz.ntmps61
  go_wp2_with (go_at_call 62; refine HR.out.mono ?_; rintro e w1 ⟨rfl, hb⟩; have HB1 := Aside0.mk hb; clear hb)
  go_ret
  exact ⟨rfl, HB1.out⟩
set_option maxRecDepth 100000 in
set_option maxHeartbeats 4000000 in
theorem superp_calls {er : Int} (k : Nat) (A0 : Option Addr) (c0 : Nat) (p : List Int) (H : Int) (A2 : Option Addr) (c2 : Nat) (x : List Int) (l : List (List Int)) (sp : List Int → Bool) (w : World) (hG : Glob w) (hr0 : Kd.C (Kd.int .i64) w A0 p.length p) (hc0 : p.length ≤ c0) (hr2 : Kd.C (Kd.int .i64) w A2 x.length x) (hc2 : x.length ≤ c2) (hL : comma_List.f k p H x = some (l, er)) (hn : l.length ≤ 100000) (hsp : ∀ r ∈ l, Super p r (sp r)) :
    Calls Tryz.prog 27 #[.agg #[.slice A0 p.length c0, .int .i64 H, .slice A2 x.length c2]] w fun e w' => ∃ v, e = .returned (.tuple #[v, .int .i64 er]) ∧ Kd.N (Kd.slice 3 (Kd.int .i64)) 30 w' w.heap.size (fun k_ => w.heap.size ≤ k_) v (l.filter sp) ∧ Below w.heap.size w w' := by
  have HG := Aside0.mk hG
  have HR0 := Aside0.mk hr0
  have HC0 := Aside0.mk hc0
  have HR2 := Aside0.mk hr2
  have HC2 := Aside0.mk hc2
  have HL := Aside0.mk hL
  have HN := Aside0.mk hn
  have HSp := Aside0.mk hsp
  have hfil : (l.filter fun x => !(fun x => !sp x) x) = l.filter sp := by congr 1; funext x; exact Bool.not_not _
  have HFil := Aside0.mk hfil
  clear hG hr0 hc0 hr2 hc2 hL hn hsp hfil
  have eg : ∀ args w, (callFunc 61 args).run Tryz.prog w = .ok (.enter 61 args) w := enters_of Tryz.func61 (by kernel_rfl) rfl
  go_enter Tryz.func27, Tryz.ntmps27
  go_wp2_with (first
    | (go_at_call 14; (with_reducible refine (comma_List.calls k A0 c0 p H A2 c2 x l er _ (Glob.below HG.out (below_alloc (Below.refl _ _) _)) (Kd.C_alloc HR0.out _) HC0.out (Kd.C_alloc HR2.out _) HC2.out HL.out).mono ?_); rintro e w1 ⟨v1, rfl, hN, hb⟩; have HN1 := Aside0.mk hN; have HB1 := Aside0.mk hb; have hq1 : w1.heap[w.heap.size]? = some (.cells #[.slice A0 p.length c0, .int .i64 H, .slice A2 x.length c2] 32 (0, 0)) := (hb.block w.heap.size (by simp only [size_alloc]; omega)).trans (by simp only [heap_alloc]; rw [if_pos trivial]); have HQ := Aside0.mk hq1; have HLT := Aside0.mk (show w.heap.size < (w.alloc (.cells #[.slice A0 p.length c0, .int .i64 H, .slice A2 x.length c2] 32)).heap.size from (by simp only [size_alloc]; omega)); have HBW := Aside0.mk (show ∀ W', Below (w.alloc (.cells #[.slice A0 p.length c0, .int .i64 H, .slice A2 x.length c2] 32)).heap.size w1 W' → Below w.heap.size w W' from fun W' hB => (below_alloc (Below.refl _ _) _).trans ((hb.mono (Nat.le_of_lt HLT.out)).trans (hB.mono (Nat.le_of_lt HLT.out)))); clear hN hb hq1; obtain ⟨B1, d1, rfl⟩ := Kd.N_slice HN1.out)
    | (go_at_call 60; refine (delete_rows 61 #[.pointer (some ⟨w.heap.size, 0, none⟩)] (fun x => !sp x) eg HN1.out HN.out HB1.out.size ?hp).mono ?_; (case hp => (intro x hx A3 c3 W' hB hC hc; exact superDel_calls w.heap.size A0 c0 p A3 c3 x (sp x) W' (Glob.below HG.out (HBW.out W' hB)) (c3_cells ((hB.block w.heap.size HLT.out).trans HQ.out)).1 (Kd.C_below HR0.out (HBW.out W' hB)) HC0.out hC hc (HSp.out x hx))); rintro e w2 ⟨v2, rfl, hN, hb⟩; have HN2 := Aside0.mk hN; have HB2 := Aside0.mk hb; clear hN hb))
  go_ret2
  have h2 := HN2.out
  rw [HFil.out] at h2
  exact ⟨_, rfl, Kd.N_mono (Kd.N_lower h2 (Nat.le_of_lt HLT.out)) (fun _ hk => Nat.le_trans (Nat.le_of_lt HLT.out) hk), HBW.out _ HB2.out⟩
end Go.Proofs.YtobdccgpbohpiaaGreatDoor
