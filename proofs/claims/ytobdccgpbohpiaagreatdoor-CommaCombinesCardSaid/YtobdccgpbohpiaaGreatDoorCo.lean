/- CommaCombines: for any plan of an interval, any further ones (at most 2, over the same primes) and any limit from -1 to 3, Combine returns all combinations that are greater than 1, each once, in order, or the first error: the row and its tied card. -/
import Derived.Laws.IdiomArrays
import Derived.Test.YtobdccgpbohpiaaGreatDoorCards
import Derived.Test.YtobdccgpbohpiaaGreatDoorCo3
import Derived.Test.YtobdccgpbohpiaaGreatDoorCo34
import Derived.Test.YtobdccgpbohpiaaGreatDoorCo35
import Derived.Test.YtobdccgpbohpiaaGreatDoorTie
set_option linter.unusedVariables false
set_option linter.unusedSimpArgs false
namespace Go.Proofs.YtobdccgpbohpiaaGreatDoor
open Go.ChangeShapes Go.WideShapes Go.ChangeAt Go.RowKit F
theorem plan_make (a0 a1 a2 a3 a4 : Int) (h0 : 0 ≤ a0 ∧ a0 < 256) (h : (-128 ≤ a1 ∧ a1 < 128) ∧ (-128 ≤ a2 ∧ a2 < 128) ∧ (-128 ≤ a3 ∧ a3 < 128) ∧ (-128 ≤ a4 ∧ a4 < 128)) : schismalaw12_Make.f a0 a1 a2 a3 a4 = some (ints (plan a0), ivl (plan a0) a1 a2 a3 a4) := by
  obtain ⟨p1, hp⟩ := primes_plan a0 h0.1 h0.2
  obtain ⟨i1, _, _⟩ := interval_few hp a1 a2 a3 a4 h
  unfold schismalaw12_Make.f
  rw [p1, Option.bind_some, i1]; rfl
def quadOk (q : Int × Int × Int × Int) : Prop := (-128 ≤ q.1 ∧ q.1 < 128) ∧ (-128 ≤ q.2.1 ∧ q.2.1 < 128) ∧ (-128 ≤ q.2.2.1 ∧ q.2.2.1 < 128) ∧ (-128 ≤ q.2.2.2 ∧ q.2.2.2 < 128)
theorem combines_calls (a0 a1 a2 a3 a4 cnt : Int) (Am : Option Addr) (cm : Nat) (ys : List (Int × Int × Int × Int)) (h0 : 0 ≤ a0 ∧ a0 < 256) (h : (-128 ≤ a1 ∧ a1 < 128) ∧ (-128 ≤ a2 ∧ a2 < 128) ∧ (-128 ≤ a3 ∧ a3 < 128) ∧ (-128 ≤ a4 ∧ a4 < 128)) (W : World) (hG : Glob W) (hQ : Quads W Am ys) (hy : ∀ (j : Nat) q, ys[j]? = some q → quadOk q) :
    Calls Tryz.prog 5 #[.agg #[.int .u8 a0, .int .i8 a1, .int .i8 a2, .int .i8 a3, .int .i8 a4], .slice Am ys.length cm, .int .i8 cnt] W fun e w' => e = .returned (.bool true) ∧ Below W.heap.size W w' := by
  by_cases hb : (ys.length : Int) > 2 ∨ cnt < -1 ∨ cnt > 3
  · exact combines_known a0 a1 a2 a3 a4 Am cm ys.length cnt W hG hb
  have hM := plan_make a0 a1 a2 a3 a4 h0 h
  obtain ⟨_, hp⟩ := primes_plan a0 h0.1 h0.2
  obtain ⟨_, hf, hf9⟩ := interval_few hp a1 a2 a3 a4 h
  obtain ⟨p, hpe⟩ : ∃ p, p = plan a0 := ⟨_, rfl⟩
  rw [← hpe] at hM hp hf hf9
  obtain ⟨x, hxe⟩ : ∃ x, x = ivl p a1 a2 a3 a4 := ⟨_, rfl⟩
  rw [← hxe] at hM hf hf9
  obtain ⟨rows, hre⟩ : ∃ rows, rows = ys.map fun q => ivl p q.1 q.2.1 q.2.2.1 q.2.2.2 := ⟨_, rfl⟩
  have hrl : rows.length = ys.length := by rw [hre, List.length_map]
  have hn : ys.length ≤ 2 := by omega
  have hI : ∀ (j : Nat) q, ys[j]? = some q → g_Interval.f (ints p) q.1 q.2.1 q.2.2.1 q.2.2.2 = some (rows.getD j []) := fun j q hj => by
    obtain ⟨i1, _, _⟩ := interval_few hp q.1 q.2.1 q.2.2.1 q.2.2.2 (hy j q hj)
    rw [i1, hre, List.getD_eq_getElem?_getD, List.getElem?_map, hj]; rfl
  have hx : ∀ r ∈ x :: rows, r.length = p.length ∧ ∀ n ∈ r, -9 ≤ n ∧ n ≤ 9 := fun r hr => by
    rcases List.mem_cons.1 hr with rfl | hr
    · exact ⟨hf.len, hf9⟩
    · rw [hre] at hr
      obtain ⟨q, hq, rfl⟩ := List.mem_map.1 hr
      obtain ⟨j, hj⟩ := List.getElem?_of_mem hq
      obtain ⟨_, i2, i3⟩ := interval_few hp q.1 q.2.1 q.2.2.1 q.2.2.2 (hy j q hj)
      exact ⟨i2.len, i3⟩
  have hl3 : (x :: rows).length ≤ 3 := by rw [List.length_cons]; omega
  have hil : (ints p).length = p.length := by unfold ints; rw [List.length_map]
  have hpl := PL_length hp
  by_cases hneg : cnt < 0
  · obtain ⟨kC, hC⟩ := combine_neg hp cnt hneg hl3 hx
    exact combines_neg a0 a1 a2 a3 a4 _ x Am cm ys cnt W hG hM hQ hn (by omega) hneg rows hrl hI kC (hC kC (Nat.le_refl _))
  · obtain ⟨m, rfl⟩ := Int.eq_ofNat_of_zero_le (show 0 ≤ cnt by omega)
    have hm : m ≤ 3 := by omega
    obtain ⟨kC, hC⟩ := combine_ev hp hm hl3 hx
    have hlen : (x :: rows).length = rows.length + 1 := List.length_cons
    obtain ⟨row, hrow⟩ : ∃ row, row = rowK m (x :: rows) (List.replicate p.length 0) := ⟨_, rfl⟩
    rw [hlen, ← hrow] at hC
    have hfew : ∀ t, Few p (row t) := fun t => by rw [hrow]; exact allC_few hm hl3 (fun r hr => (hx r hr).2) t
    obtain ⟨kE, hE⟩ := same_ev (wants (fun r => decide (denN p r < numN p r)) row ((2 * m + 1) ^ (rows.length + 1))) (wants (fun r => decide (denN p r < numN p r)) row ((2 * m + 1) ^ (rows.length + 1))) (by
      have := wants_length (fun r => decide (denN p r < numN p r)) row ((2 * m + 1) ^ (rows.length + 1))
      have h4 : (2 * m + 1) ^ (rows.length + 1) ≤ 343 := by
        calc (2 * m + 1) ^ (rows.length + 1) ≤ 7 ^ (rows.length + 1) := Nat.pow_le_pow_left (by omega) _
          _ ≤ 7 ^ 3 := Nat.pow_le_pow_right (by omega) (by omega)
      omega) (fun r hr => by
      obtain ⟨t, _, e, _⟩ := (wants_mem _ row r _).1 hr
      rw [e, (hfew t).len]; omega)
    rw [decide_eq_true rfl] at hE
    refine combines_main a0 a1 a2 a3 a4 (ints p) x Am cm ys m W hG hM hQ hn hm rows hrl hI (by omega) (fun r hr => by rw [(hx r hr).1, hil]) kC _ (hC kC (Nat.le_refl _)) (fun r => decide (denN p r < numN p r)) row (by rw [hrow, hil]) (fun t _ => ?_) kE (hE kE (Nat.le_refl _))
    obtain ⟨k, hk⟩ := sign_ev hp (hfew t)
    exact ⟨k, _, hk k (Nat.le_refl _), decide_eq_decide.2 (cmpN_pos _ _)⟩
set_option maxRecDepth 100000 in
theorem plan12_open {H : Type} {enc : TypeId × Value → H} {W : World} {base : Nat} {v0 : Value} {d0 : DataW H} {ps : List MemPlace} (hval : Value.okWide Tryz.prog W .any base 25 v0) (h0 : DataW.Trod enc Tryz.prog W 0 (fun _ => true) true 25 v0 d0 ps) :
    ∃ a0 a1 a2 a3 a4 : Int, v0 = .agg #[.int .u8 a0, .int .i8 a1, .int .i8 a2, .int .i8 a3, .int .i8 a4] ∧ (0 ≤ a0 ∧ a0 < 256) ∧ ((-128 ≤ a1 ∧ a1 < 128) ∧ (-128 ≤ a2 ∧ a2 < 128) ∧ (-128 ≤ a3 ∧ a3 < 128) ∧ (-128 ≤ a4 ∧ a4 < 128)) ∧ ps = [] := by
  obtain ⟨cs, rfl, hsz⟩ := okWide_struct Tryz.underlying25 hval
  rw [cells25] at hsz
  obtain ⟨l⟩ := cs
  match l, hsz with
  | [c0, c1, c2, c3, c4], _ =>
  obtain ⟨fuel, hf⟩ := h0
  obtain ⟨z0, z1, m2, hx2, _, hz0, hz1⟩ := trod_struct2 Tryz.underlying25 hf
  obtain ⟨a0, e0, rfl, w0⟩ := DataW.trod_int Tryz.underlying5 hz0
  obtain ⟨xs, m3, rfl, hx3, _, hn4, hel⟩ := DataW.trod_array Tryz.underlying23 hz1
  simp [Value.cells, cells5, cells25, cells23, cells22] at e0 hel
  have l0 := hel 0 (by omega)
  have l1 := hel 1 (by omega)
  have l2 := hel 2 (by omega)
  have l3 := hel 3 (by omega)
  match xs, hn4 with
  | [x0, x1, x2, x3], _ =>
  simp at l0 l1 l2 l3
  obtain ⟨a1, e1, rfl, w1⟩ := DataW.trod_int Tryz.underlying22 l0
  obtain ⟨a2, e2, rfl, w2⟩ := DataW.trod_int Tryz.underlying22 l1
  obtain ⟨a3, e3, rfl, w3⟩ := DataW.trod_int Tryz.underlying22 l2
  obtain ⟨a4, e4, rfl, w4⟩ := DataW.trod_int Tryz.underlying22 l3
  simp at e1 e2 e3 e4
  subst e0 e1 e2 e3 e4
  have b0 := bounds_u8 w0
  have b1 := bounds_i8 w1
  have b2 := bounds_i8 w2
  have b3 := bounds_i8 w3
  have b4 := bounds_i8 w4
  refine ⟨a0, a1, a2, a3, a4, rfl, by omega, by omega, ?_⟩
  simp at hx3
  simp [hx3] at hx2
  exact hx2.2
set_option maxRecDepth 100000 in
theorem quads_open {H : Type} {enc : TypeId × Value → H} {W : World} {base : Nat} {v0 : Value} {d0 : DataW H} {ps : List MemPlace} (hval : Value.okWide Tryz.prog W .any base 49 v0) (h0 : DataW.Trod enc Tryz.prog W 0 (fun _ => true) true 49 v0 d0 ps) :
    ∃ (A : Option Addr) (c : Nat) (ys : List (Int × Int × Int × Int)), v0 = .slice A ys.length c ∧ Quads W A ys ∧ (∀ (j : Nat) q, ys[j]? = some q → quadOk q) ∧ ∀ x ∈ ps, x.block < W.heap.size := by
  obtain ⟨a0, len0, cap0, rfl⟩ := okWide_slice Tryz.underlying49 hval
  have lt0 : ∀ x ∈ ps, x.block < W.heap.size := by obtain ⟨m, hm⟩ := h0; exact DataW.trod_lt m _ _ _ hm
  obtain ⟨fuel, hf⟩ := h0
  rcases DataW.trod_slice Tryz.underlying49 hf with ⟨hcs, _⟩ | ⟨a, len, cap, elems, rest, n, _, hcs, _, _, _, _, hel, hat, _, _⟩
  · simp [Value.cells] at hcs
    obtain ⟨rfl, rfl, rfl⟩ := hcs
    exact ⟨none, 0, [], rfl, fun j q hj => by simp at hj, fun j q hj => by simp at hj, lt0⟩
  · simp [Value.cells] at hcs
    obtain ⟨rfl, rfl, rfl⟩ := hcs
    rw [cells23] at hat
    have key : ∀ j, ∃ q : Int × Int × Int × Int, j < len0 → quadOk q ∧ W.cell? (a.add (j * 4)) = some (.int .i8 q.1) ∧ W.cell? ⟨(a.add (j * 4)).block, (a.add (j * 4)).off + 1, none⟩ = some (.int .i8 q.2.1) ∧ W.cell? ⟨(a.add (j * 4)).block, (a.add (j * 4)).off + 2, none⟩ = some (.int .i8 q.2.2.1) ∧ W.cell? ⟨(a.add (j * 4)).block, (a.add (j * 4)).off + 3, none⟩ = some (.int .i8 q.2.2.2) := fun j => by
      by_cases hj : j < len0
      · have h1 := hat j hj
        rw [List.getElem?_eq_getElem (by omega), Option.bind_eq_some_iff] at h1
        obtain ⟨cs, hcs, hy⟩ := h1
        obtain ⟨_, hlen, hcell⟩ := World.cells?_some hcs
        match cs, hlen with
        | [c0, c1, c2, c3], _ =>
        obtain ⟨y0, y1, y2, y3, m, _, t0, t1, t2, t3⟩ := trod_array4 Tryz.underlying23 cells22 hy
        obtain ⟨b0, e0, _, w0⟩ := DataW.trod_int Tryz.underlying22 t0
        obtain ⟨b1, e1, _, w1⟩ := DataW.trod_int Tryz.underlying22 t1
        obtain ⟨b2, e2, _, w2⟩ := DataW.trod_int Tryz.underlying22 t2
        obtain ⟨b3, e3, _, w3⟩ := DataW.trod_int Tryz.underlying22 t3
        simp at e0 e1 e2 e3
        subst e0 e1 e2 e3
        have f0 := bounds_i8 w0
        have f1 := bounds_i8 w1
        have f2 := bounds_i8 w2
        have f3 := bounds_i8 w3
        refine ⟨(b0, b1, b2, b3), fun _ => ⟨⟨by simp only; omega, by simp only; omega, by simp only; omega, by simp only; omega⟩, hcell 0 (by omega), hcell 1 (by omega), hcell 2 (by omega), hcell 3 (by omega)⟩⟩
      · exact ⟨(0, 0, 0, 0), fun h => absurd h hj⟩
    obtain ⟨f, hfq⟩ := Classical.axiomOfChoice key
    have hget : ∀ (j : Nat) q, ((List.range len0).map f)[j]? = some q → j < len0 ∧ q = f j := fun j q hj => by
      rw [List.getElem?_map] at hj
      obtain ⟨i, hi, rfl⟩ := Option.map_eq_some_iff.1 hj
      have hjl := (List.getElem?_eq_some_iff.1 hi).1
      rw [List.length_range] at hjl
      rw [List.getElem?_range hjl] at hi
      obtain rfl := Option.some.inj hi
      exact ⟨hjl, rfl⟩
    refine ⟨some a, cap0, (List.range len0).map f, by rw [List.length_map, List.length_range], fun j q hj => ?_, fun j q hj => ?_, lt0⟩
    · obtain ⟨h1, rfl⟩ := hget j q hj
      exact ⟨a, rfl, (hfq j h1).2⟩
    · obtain ⟨h1, rfl⟩ := hget j q hj
      exact (hfq j h1).1
set_option maxRecDepth 100000 in
theorem commaCombines_lifted (os : Os) (started : os.Started) (H : Type) (enc : TypeId × Value → H) :
    ReturnsInHanded {} Tryz.checked os 5 .any (fun w args => (Rows.commaCombinesSpec.pre enc Tryz.prog Tryz.f5 [] false w args ∧ laidMetH Tryz.prog laid5 w) ∧ sizedMet enc Tryz.prog Tryz.f5 (OpenSpec.ofChange Rows.commaCombinesSpec) false w args)
      (Rows.commaCombinesSpec.post enc Tryz.prog Tryz.f5 false true false false) := by
  refine returnsInHanded_of_change_and (C := Tryz.checked) (X := fun w _ => laidMetH Tryz.prog laid5 w) (fun _ _ _ hh h => h.of_heap hh) own_ started (by kernel_rfl) Tryz.func5
    (ChangeSpec.witness_shaped (enc := enc) (C := Tryz.checked) (os := os) (X := fun w _ => laidMetH Tryz.prog laid5 w) false (World.doorLaid Tryz.prog 400 os) #[.agg #[.int .u8 0, .int .i8 0, .int .i8 0, .int .i8 0, .int .i8 0], .slice none 0 0, .int .i8 0] 8 rfl (World.shaped_of_RefB (by kernel_rfl) (by kernel_rfl)) (by kernel_rfl) (by kernel_rfl) (by kernel_rfl) (door_met os _)) ?_
  intro W base args ds gs before hval0 hW _ _ hL _
  have hval : ∀ (j : Nat) t v, Tryz.f5.params[j]? = some t → args[j]? = some v → Value.okWide Tryz.prog W .any base t v := hval0
  have hW' := hW
  obtain ⟨p, q, hA0, hV, rfl, hfz, hnd⟩ := hW
  have hA : DataW.TrodAll enc Tryz.prog W 0 (fun _ => true) true Tryz.f5.params.toList args.toList ds p := hA0
  rw [Tryz.params5] at hA hval
  obtain ⟨v0, vs0, d0, ds0, p0, q0, hargs, rfl, rfl, h0, r0⟩ := trodAll_cons hA
  obtain ⟨v1, vs1, d1, ds1, p1, q1, rfl, rfl, rfl, h1, r1⟩ := trodAll_cons r0
  obtain ⟨v2, vs2, d2, ds2, p2, q2, rfl, rfl, rfl, h2, r2⟩ := trodAll_cons r1
  obtain ⟨rfl, rfl, rfl⟩ := trodAll_nil r2
  obtain rfl : args = #[v0, v1, v2] := by cases args; simp_all
  obtain ⟨rfl, rfl⟩ := trodVars_none hV
  obtain ⟨a0, a1, a2, a3, a4, rfl, b0, b1, rfl⟩ := plan12_open (hval 0 25 v0 rfl rfl) h0
  obtain ⟨Am, cm, ys, rfl, hQ, hy, l1⟩ := quads_open (hval 1 49 v1 rfl rfl) h1
  obtain ⟨cnt, rfl, rfl, rfl, _⟩ := open_int Tryz.underlying22 (hval 2 22 v2 rfl rfl) h2
  have hG := glob_of hL
  clear hA0 hval0
  refine (combines_calls a0 a1 a2 a3 a4 cnt Am cm ys b0 b1 W hG hQ hy).mono fun e W' ⟨he, bel⟩ => ?_
  subst he
  exact ⟨_, rfl, _, _, _, [], _, [], hW', trodAll_mk1 (shut_bool Tryz.underlying4 _), (trodAll_cons_mk (Below.trod laidOut_ (by kernel_rfl) (of_decide_eq_true (by kernel_rfl)) h0 bel (fun x hx => by simp at hx)) (trodAll_cons_mk (Below.trod laidOut_ (by kernel_rfl) (of_decide_eq_true (by kernel_rfl)) h1 bel l1) (trodAll_cons_mk (Below.trod laidOut_ (by kernel_rfl) (of_decide_eq_true (by kernel_rfl)) h2 bel (fun x hx => by simp at hx)) trodAll_mk0))), rfl, bel.frame _, fun h => by cases h⟩
theorem commaCombines_holds : Rows.CommaCombinesSaid :=
  OpenClaim.holds_of_wide 5 Tryz.f5 rfl rfl rfl rfl rfl rfl rfl ⟨rfl, rfl, rfl, rfl, rfl⟩ rfl rfl rfl rfl rfl (by kernel_rfl) Tryz.func5 (by kernel_rfl)
    (of_decide_eq_true (by kernel_rfl)) (by unfold Func.isWrapper; first | (rw [if_pos (by decide +kernel)]; kernel_rfl) | (rw [if_neg (by decide +kernel)]; exact ⟨rfl, rfl⟩))
    (fun os started H enc _ => commaCombines_lifted os started H enc)
theorem commaCombines_card : Rows.CommaCombinesCardSaid :=
  Claim7.holds_tied_plain_at .later [] [.data, .data, .data, .sentinel, .sentinel] true (true, "ef9bef160808dab75bcc16a36ad70f1427a7490e534792e8ba55f790fc90c504") true
    commaCombines_holds (fun _ h => by cases h) (by kernel_rfl) (fun _ h => by cases h) commaCombines_row_tie rfl ⟨rfl, rfl⟩ (by kernel_rfl) rfl
    (fun f fn hf hfn => by
      obtain rfl : f = 5 := Option.some.inj ((show Tryz.prog.funcNamed "schisma/schismalaw16.CommaCombines" = some 5 by kernel_rfl).symm.trans hf) |>.symm
      obtain rfl : fn = Tryz.f5 := (Option.some.inj (Tryz.func5.symm.trans hfn)).symm
      exact ⟨by kernel_rfl, fun j t ht => by
        rw [Tryz.params5] at ht
        have hm : t ∈ [25, 49, 22] := by simpa using Array.mem_of_getElem? ht
        have hall : ([25, 49, 22].all fun u => !Tryz.prog.wantsStandIn u) = true := by kernel_rfl
        exact (show Tryz.prog.wantsStandIn t = false by simpa using List.all_eq_true.1 hall t hm)⟩)
    (by kernel_rfl)
end Go.Proofs.YtobdccgpbohpiaaGreatDoor
