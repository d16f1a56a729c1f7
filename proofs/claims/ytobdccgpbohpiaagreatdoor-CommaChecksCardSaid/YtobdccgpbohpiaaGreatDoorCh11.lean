/- Ch: a part of the proof. -/
import Derived.LoopIn
import Derived.LoopNIn
import Derived.Maps.AppendAt
import Derived.Outline
import Derived.OwnWalkIn
import Derived.RangeFuncBox
import Derived.RangeFuncLeaves
import Derived.RangeFuncMany
import Derived.Shelf.Abstract
import Derived.TacticsInMore
import Derived.Test.YtobdccgpbohpiaaGreatDoorCh10
import Derived.WalkKit
set_option linter.unusedVariables false
set_option linter.unusedSimpArgs false
namespace Go.Proofs.YtobdccgpbohpiaaGreatDoor
open Go.RowKit Go.Shelf Go.Proofs.YtobdccgpbohpiaaGreatDoorW.PrintWords Go.Proofs.YtobdccgpbohpiaaGreatDoorW.PrintLast Go.Proofs.YtobdccgpbohpiaaGreatDoorW.PrintMore
attribute [local go_sem] Oper.semAt_some
def upto {α : Type} (f : Nat → α) (k : Nat) : List α := (List.range k).map f
theorem upto_succ {α : Type} (f : Nat → α) (k : Nat) : upto f (k + 1) = upto f k ++ [f k] := by simp [upto, List.range_succ]
theorem upto_length {α : Type} (f : Nat → α) (k : Nat) : (upto f k).length = k := by simp [upto]
def KpB (n₀ b : Nat) (W W' : World) : Prop := Below n₀ W W' ∧ W'.heap[b]? = W.heap[b]?
theorem KpB.refl (n₀ b : Nat) (W : World) : KpB n₀ b W W := ⟨Below.refl _ _, rfl⟩
theorem KpB.trans {n₀ b : Nat} {A B C : World} (h : KpB n₀ b A B) (k : KpB n₀ b B C) : KpB n₀ b A C := ⟨h.1.trans k.1, k.2.trans h.2⟩
theorem KpB.box {n₀ b o : Nat} {A B : World} (h : KpB n₀ b A B) : B.cell? ⟨b, o, none⟩ = A.cell? ⟨b, o, none⟩ := by
  unfold World.cell?
  rw [h.2]
theorem KpB.putObj {n₀ b : Nat} {w : World} (hn : n₀ ≤ w.heap.size) (hb : b < w.heap.size) (W : World) (l : Nat) (o o' : Obj) (hl : w.heap.size ≤ l) (h : W.heap[l]? = some o) (h1 : o.isCells = false) (h2 : o.isWalk = false) : KpB n₀ b W (W.putObj l o') :=
  ⟨belowK_b hn W l o o' hl h h1 h2, (grownBy_putObj' W l o').block b (by have := (Array.getElem?_eq_some_iff.1 h).1; omega) (by intro e; cases e; omega)⟩
set_option maxRecDepth 100000 in
set_option maxHeartbeats 2000000 in
theorem pairs1_in (F : Fence) (n : Nat) (h8 : F.fn 116) (hro : F.round = none) (hn : 1 ≤ n) (l Ba Bb n₀ : Nat) (ada adb : Addr) (len ca lb cb : Nat) (xs ys : List Int) (hlb : lb = len) (hl : len ≤ 64) (hba : ada.block < n₀) (hbb : adb.block < n₀) (J Jx : List (Int × Int) → World → Prop)
    (hY : ∀ pre x W, J pre W → pre.length < len → YieldAt F (n - 1) Tryz.prog l #[.int .i64 x.1, .int .i64 x.2] W fun e W' =>
      (e = .returned (.bool true) ∧ J (pre ++ [x]) W' ∧ KpB n₀ Bb W W') ∨ (e = .returned (.bool false) ∧ Jx (pre ++ [x]) W'))
    (W : World) (hBa : W.cell? ⟨Ba, 0, none⟩ = some (.slice (some ada) len ca)) (hBb : W.cell? ⟨Bb, 0, none⟩ = some (.slice (some adb) lb cb))
    (hca : ∀ j, j < len → W.cell? (ada.add j) = some (.int .i64 (xs[j]?.getD 0))) (hcb : ∀ j, j < len → W.cell? (adb.add j) = some (.int .i64 (ys[j]?.getD 0))) (h0 : J [] W) :
    CallsIn F n Tryz.prog 116 #[.func (.yield l) #[] #[], .pointer (some ⟨Ba, 0, none⟩), .pointer (some ⟨Bb, 0, none⟩)] W fun e W' => (∃ v, e = .returned v) ∧
      ((∃ zs, zs = upto (fun j => (xs[j]?.getD 0, ys[j]?.getD 0)) len ∧ J zs W') ∨ (∃ pre, (∃ k, k ≤ len ∧ pre = upto (fun j => (xs[j]?.getD 0, ys[j]?.getD 0)) k) ∧ Jx pre W')) := by
  subst hlb
  refine callsIn_of_wp Tryz.func116 rfl h8 ?_ hro
  simp only [Tryz.ntmps116, List.size_toArray, List.length_cons, List.length_nil, Nat.reduceAdd, Nat.reduceSub, Array.replicate_succ, Array.replicate_zero, List.push_toArray, List.append_toArray, List.nil_append, List.cons_append]
  gi_wp2
  gi_loopw [4, 5, 8] (fun _ _ i wr => ∃ k : Nat, k ≤ lb ∧ i = .int .i64 k ∧ J (upto (fun j => (xs[j]?.getD 0, ys[j]?.getD 0)) k) wr ∧ Aside0 (KpB n₀ Bb W wr))
    (fun _ _ i _ => lb - (intOf i).toNat)
  case atStart => exact ⟨0, Nat.zero_le _, rfl, h0, ⟨KpB.refl _ _ _⟩⟩
  case round =>
    obtain ⟨k, hk, rfl, hJs, hnx⟩ := hrel
    by_cases hlt : k < lb
    · have hcx : wr.cell? (ada.add k) = some (.int .i64 (xs[k]?.getD 0)) := (hnx.out.1.cell (p := ada.add k) (by rw [add_block]; exact hba)).trans (hca k hlt)
      have hcy : wr.cell? (adb.add k) = some (.int .i64 (ys[k]?.getD 0)) := (hnx.out.1.cell (p := adb.add k) (by rw [add_block]; exact hbb)).trans (hcb k hlt)
      have hbb' : wr.cell? ⟨Bb, 0, none⟩ = some (.slice (some adb) lb cb) := hnx.out.box.trans hBb
      obtain ⟨fn, tmps, assign, body, hy, hR⟩ := hY _ (xs[k]?.getD 0, ys[k]?.getD 0) wr hJs (by rw [upto_length]; exact hlt)
      dsimp only at hy
      gi_wp2
      refine hR.mono ?_
      rintro e W3 (⟨rfl, hJ3, hk3⟩ | ⟨rfl, hJx3⟩)
      ·
        have HK3 := Aside0.mk hk3
        clear hk3
        gi_wp2
        go_roundw
        case rel => exact ⟨k + 1, by omega, by simp, by rw [upto_succ]; exact hJ3, ⟨hnx.out.trans HK3.out⟩⟩
        case measure => simp [intOf]; omega
      · gi_wp2
        refine bodyPost_ret (results_none rfl _ _ _) rfl ?_
        exact ⟨⟨_, rfl⟩, .inr ⟨_, ⟨k + 1, by omega, (upto_succ _ _).symm⟩, hJx3⟩⟩
    · obtain rfl : k = lb := by omega
      gi_wp2
      go_end0
      exact ⟨⟨_, rfl⟩, .inl ⟨_, rfl, hJs⟩⟩
set_option maxHeartbeats 1000000 in
theorem pairs_in (F : Fence) (n : Nat) (h6 : F.fn 83) (hro : F.round = none) (va vb : Value) (w : World) (na : ∃ A n c, va = .slice A n c) (nb : ∃ A n c, vb = .slice A n c) :
    CallsIn F n Tryz.prog 83 #[va, vb] w fun e w' => e = .returned (.func (.func 116) #[] #[.pointer (some ⟨w.heap.size, 0, none⟩), .pointer (some ⟨w.heap.size + 1, 0, none⟩)]) ∧ w' = (w.alloc (.cells #[va] 30)).alloc (.cells #[vb] 30) := by
  obtain ⟨A, k, c, rfl⟩ := na
  obtain ⟨B, k2, c2, rfl⟩ := nb
  refine callsIn_of_wp Tryz.func83 rfl h6 ?_ hro
  simp only [Tryz.ntmps83, List.size_toArray, List.length_cons, List.length_nil, Nat.reduceAdd, Nat.reduceSub, Array.replicate_succ, Array.replicate_zero, List.push_toArray, List.append_toArray, List.nil_append, List.cons_append]
  gi_wp2
  go_ret
  exact ⟨rfl, rfl⟩
theorem pairs_stops (F : Fence) (n : Nat) (h8 : F.fn 116) (hro : F.round = none) (hn : 1 ≤ n) (Ba Bb n₀ : Nat) (ada adb : Addr) (len ca lb cb : Nat) (xs ys : List Int) (hlb : lb = len) (hl : len ≤ 64) (hba : ada.block < n₀) (hbb : adb.block < n₀) (w : World) (hna : Ba < w.heap.size) (hnb : Bb < w.heap.size) (hn₀ : n₀ ≤ w.heap.size)
    (hBa : w.cell? ⟨Ba, 0, none⟩ = some (.slice (some ada) len ca)) (hBb : w.cell? ⟨Bb, 0, none⟩ = some (.slice (some adb) lb cb))
    (hca : ∀ j, j < len → w.cell? (ada.add j) = some (.int .i64 (xs[j]?.getD 0))) (hcb : ∀ j, j < len → w.cell? (adb.add j) = some (.int .i64 (ys[j]?.getD 0))) :
    SeqStopsK F n Tryz.prog 116 #[.pointer (some ⟨Ba, 0, none⟩), .pointer (some ⟨Bb, 0, none⟩)] (fun x : Int × Int => #[Value.int .i64 x.1, Value.int .i64 x.2]) (KpB n₀ Bb) (fun zs => zs = upto (fun j => (xs[j]?.getD 0, ys[j]?.getD 0)) len)
      (fun pre => ∃ k, k ≤ len ∧ pre = upto (fun j => (xs[j]?.getD 0, ys[j]?.getD 0)) k) len w := fun l J Jx W hW _ _ hY h0 => by
  have hW' := hW.mono hn₀
  exact pairs1_in F n h8 hro hn l Ba Bb n₀ ada adb len ca lb cb xs ys hlb hl hba hbb J Jx hY W ((hW.cell (p := ⟨Ba, 0, none⟩) hna).trans hBa) ((hW.cell (p := ⟨Bb, 0, none⟩) hnb).trans hBb) (fun j hj => (hW'.cell (p := ada.add j) (by rw [add_block]; exact hba)).trans (hca j hj)) (fun j hj => (hW'.cell (p := adb.add j) (by rw [add_block]; exact hbb)).trans (hcb j hj)) h0
set_option maxHeartbeats 1000000 in
theorem result_ok (A0 : Option Addr) (c0 : Nat) (l0 : List Int) (w : World) (hr0 : Kd.C (Kd.int .i64) w A0 l0.length l0) (hc0 : l0.length ≤ c0) (h0 : l0.length ≤ 64) (ha : l0.all fitE = true) :
    Calls Tryz.prog 84 #[.slice A0 l0.length c0] w fun e w' => e = .returned (.tuple #[.slice A0 l0.length c0, .int .i64 0]) ∧ w = w' := by
  have k0 := row_Check_same A0 c0 l0 0 w hr0 hc0 (check_fit h0 ha)
  clear hr0 hc0 ha
  go_enter Tryz.func84, Tryz.ntmps84
  go_wp2_with (go_at_call 105; refine k0.mono ?_; clear k0; rintro e w' ⟨rfl, rfl⟩)
  go_ret2
  exact ⟨rfl, rfl⟩
theorem boxed_kept_app {W w1 : World} {n₀ B Bb : Nat} {t e : TypeId} {size : Nat} {v v' u : Value} {k : Nat} {xs : List Value} {tmp : Obj}
    (hb : Boxed W Bb t u) (hne : Bb ≠ B) (hte : t ≠ e) (hrow : W.ownsRow n₀ e size v k xs) (hgrow : (W.alloc tmp).grownBy w1 v.ownBlock) :
    (w1.setCell ⟨B, 0, none⟩ v').heap[Bb]? = W.heap[Bb]? := by
  rw [(grownBy_setCell' w1 B v').block Bb ((hb.alloc tmp).kept hgrow (hb.not_row hte hrow)).lt (by intro h; injection h with h; exact hne h)]
  exact ((hb.alloc tmp).kept hgrow (hb.not_row hte hrow)).trans hb.symm
theorem own_and {β : Type} {I J : β → World → Prop} (h : Own I) (k : Own J) : Own (fun s W => I s W ∧ J s W) := fun s X Y row hs hg hr => ⟨h s X Y row hs.1 hg hr, k s X Y row hs.2 hg hr⟩
theorem boxed_own' {β : Type} (B : Nat) (t : TypeId) (u : Value) : Own (fun (_ : β) W => Boxed W B t u) := by
  rintro s X Y row hv hg hrow
  refine hv.kept hg (fun e' => ?_)
  obtain ⟨o, ho, hc⟩ := hrow B e'.symm
  rw [show X.heap[B]? = _ from hv] at ho
  cases ho
  cases hc
def dif (p : List (Int × Int)) : List Int := p.map fun z => wrap64 (z.1 - z.2)
theorem dif_snoc (p : List (Int × Int)) (x : Int × Int) : dif (p ++ [x]) = dif p ++ [wrap64 (x.1 - x.2)] := by simp [dif]
theorem dif_length (p : List (Int × Int)) : (dif p).length = p.length := by simp [dif]
set_option maxRecDepth 100000 in
set_option maxHeartbeats 2000000 in
theorem sub_calls (ada adb : Addr) (ca cb : Nat) (xs ys : List Int) (r : List Int) (w : World) (hra : Kd.C (Kd.int .i64) w (some ada) xs.length xs) (hca : xs.length ≤ ca) (hrb : Kd.C (Kd.int .i64) w (some adb) ys.length ys) (hcb : ys.length ≤ cb)
    (h0 : xs.length ≤ 64) (h1 : ys.length = xs.length) (ha : xs.all fitE = true) (hb : ys.all fitE = true) (hp : 0 < xs.length)
    (hr : r = dif (upto (fun j => (xs[j]?.getD 0, ys[j]?.getD 0)) xs.length)) (hfit : r.all fitE = true) :
    Calls Tryz.prog 43 #[.slice (some ada) xs.length ca, .slice (some adb) ys.length cb] w fun e w' => ∃ v0_ : Value, e = .returned (.tuple #[v0_, .int .i64 0]) ∧ Kd.R (Kd.int .i64) 3 w' w.heap.size (fun _ => True) v0_ r ∧ Below w.heap.size w w' := by
  have hbo := both_ok (some ada) ca xs (some adb) cb ys w hra hca hrb hcb h0 h1 ha hb
  obtain ⟨i0, hi, hz0, hz1, hz2⟩ := info_parts info3
  refine (callsIn_wide (n := 5)).1 ?_
  refine callsIn_of_wp_marks Tryz.func43 rfl trivial ?_ rfl
  simp only [Tryz.ntmps43, List.size_toArray, List.length_cons, List.length_nil, Nat.reduceAdd, Nat.reduceSub, Array.replicate_succ, Array.replicate_zero, List.push_toArray, List.append_toArray, List.nil_append, List.cons_append]
  have HRA := Aside0.mk hra
  have HRB := Aside0.mk hrb
  have HX := Aside0.mk h1
  have HR := Aside0.mk hr
  have HF := Aside0.mk hfit
  have hcella : ∀ j, j < xs.length → w.cell? (ada.add j) = some (.int .i64 (xs[j]?.getD 0)) := fun j hj => by
    obtain ⟨ad, he, hc⟩ := Kd.at_int hra (j : Int) (by omega) (by omega)
    cases he
    rw [Int.toNat_natCast] at hc
    rw [hc]
    simp [rd]
  have hcellb : ∀ j, j < xs.length → w.cell? (adb.add j) = some (.int .i64 (ys[j]?.getD 0)) := fun j hj => by
    obtain ⟨ad, he, hc⟩ := Kd.at_int hrb (j : Int) (by omega) (by omega)
    cases he
    rw [Int.toNat_natCast] at hc
    rw [hc]
    simp [rd]
  have hla : ada.block < w.heap.size := by have := World.block_lt_of_cell? w _ (hcella 0 hp); rwa [add_block] at this
  have hlb : adb.block < w.heap.size := by have := World.block_lt_of_cell? w _ (hcellb 0 hp); rwa [add_block] at this
  have HCA := Aside0.mk hcella
  have HCB := Aside0.mk hcellb
  clear hra hrb h1 ha hb hcella hcellb hr hfit
  gi_wp2_with fail
  refine ⟨trivial, (callsIn_wide.2 hbo).mono ?_⟩
  rintro e w' ⟨rfl, rfl⟩
  clear hbo
  gi_wp2_with (gi_at_make; refine wpListIn_make_own _ rfl _ _ 30 rfl w.heap.size 3 i0 (.int .i64 0) 1 Tryz.underlying30 hi hz0 hz1 .i64 .i64 (xs.length : Int) xs.length rfl rfl rfl (by rw [hz2]; omega) (by unfold maxLen; omega) (Nat.le_refl _) ?_; intro w1 hown1 hgrow1)
  refine ⟨trivial, (pairs_in Fence.wide 4 trivial rfl _ _ _ ⟨_, _, _, rfl⟩ ⟨_, _, _, rfl⟩).mono ?_⟩
  rintro e w' ⟨rfl, rfl⟩
  gi_wp2_with fail
  have hB1 : Below w.heap.size w w1 := (Below.refl _ w).grown hgrow1 (Nat.le_refl _) (by intro k hk; cases hk)
  have bO0 := Boxed.new w1 30 (.slice (some ⟨w.heap.size, 0, none⟩) 0 xs.length)
  have bA0 := Boxed.new (w1.alloc (.cells #[.slice (some ⟨w.heap.size, 0, none⟩) 0 xs.length] 30)) 30 (.slice (some ada) xs.length ca)
  have bB0 := Boxed.new ((w1.alloc (.cells #[.slice (some ⟨w.heap.size, 0, none⟩) 0 xs.length] 30)).alloc (.cells #[.slice (some ada) xs.length ca] 30)) 30 (.slice (some adb) ys.length cb)
  have hown3 := ((hown1.alloc (.cells #[.slice (some ⟨w.heap.size, 0, none⟩) 0 xs.length] 30)).alloc (.cells #[.slice (some ada) xs.length ca] 30)).alloc (.cells #[.slice (some adb) ys.length cb] 30)
  have hB3 : Below w.heap.size w (((w1.alloc (.cells #[.slice (some ⟨w.heap.size, 0, none⟩) 0 xs.length] 30)).alloc (.cells #[.slice (some ada) xs.length ca] 30)).alloc (.cells #[.slice (some adb) ys.length cb] 30)) := ((hB1.alloc hB1.size _).alloc (by have := hB1.size; simp; omega) _).alloc (by have := hB1.size; simp; omega) _
  replace bO0 := (bO0.alloc (.cells #[.slice (some ada) xs.length ca] 30)).alloc (.cells #[.slice (some adb) ys.length cb] 30)
  replace bA0 := bA0.alloc (.cells #[.slice (some adb) ys.length cb] 30)
  rw [World.size_alloc] at bA0
  rw [World.size_alloc, World.size_alloc] at bB0
  obtain ⟨W0, hW0⟩ : ∃ W0, W0 = (((w1.alloc (.cells #[.slice (some ⟨w.heap.size, 0, none⟩) 0 xs.length] 30)).alloc (.cells #[.slice (some ada) xs.length ca] 30)).alloc (.cells #[.slice (some adb) ys.length cb] 30)) := ⟨_, rfl⟩
  have hsz : W0.heap.size = w1.heap.size + 3 := by rw [hW0]; simp
  rw [← hW0] at bO0 bA0 bB0 hown3 hB3 ⊢
  have hsz1 := hB1.size
  clear hW0 hown1 hgrow1
  refine wpIn_rangeFunc_ownG rfl (by omega) (gf := 116) (lb := #[.pointer (some ⟨w1.heap.size + 1, 0, none⟩), .pointer (some ⟨w1.heap.size + 1 + 1, 0, none⟩)]) rfl trivial (enters_of Tryz.func116 (by kernel_rfl) rfl)
    (pairs_stops Fence.wide (5 - 1) trivial rfl (by omega) (w1.heap.size + 1) (w1.heap.size + 1 + 1) w.heap.size ada adb xs.length ca ys.length cb xs ys HX.out h0 hla hlb W0 (by omega) (by omega) (by omega) bA0.cell bB0.cell (fun j hj => (hB3.cell (p := ada.add j) (by rw [add_block]; exact hla)).trans (HCA.out j hj)) (fun j hj => (hB3.cell (p := adb.add j) (by rw [add_block]; exact hlb)).trans (HCB.out j hj)))
    KpB.trans (KpB.putObj (by omega) (by omega)) (Below.refl _ _) (fun _ => rfl)
    (fun pre W => ((∃ v, Boxed W w1.heap.size 30 v ∧ W.ownsRow w.heap.size 3 1 v (dif pre).length ((dif pre).map (Value.int .i64)) ∧ True) ∧ Boxed W (w1.heap.size + 1 + 1) 30 (.slice (some adb) ys.length cb)) ∧ Below w.heap.size w W)
    (fun _ _ _ => False)
    (OwnFrom.and (Own.from (own_and (holdsRow_own w.heap.size w1.heap.size 30 3 1 (fun pre => (dif pre).length) (fun pre => (dif pre).map (Value.int .i64)) (fun pre v => True)) (boxed_own' _ _ _)) _) (ownFrom_below (Nat.le_refl _) (by omega)))
    (fun _ _ _ _ _ hs _ _ => hs)
    ⟨⟨⟨_, bO0, hown3, trivial⟩, bB0⟩, hB3⟩
    (fun x => { tmps := #[Value.slice (some ada) xs.length ca, Value.slice (some adb) ys.length cb, undef, undef, Value.slice none 0 0,
          Value.int IntKind.i64 0, Value.int IntKind.i64 0, Value.pointer (some { block := w1.heap.size, off := 0 }),
          .int .i64 x.1, .int .i64 x.2, Value.slice (some ada) xs.length ca, Value.slice (some adb) ys.length cb,
          Value.int IntKind.i64 0, Value.int IntKind.i64 0, Value.bool false, undef,
          Value.slice (some ada) xs.length ca, Value.int IntKind.i64 ↑xs.length,
          Value.slice (some { block := w.heap.size, off := 0 }) 0 xs.length, Value.slice (some ada) xs.length ca,
          Value.slice (some adb) ys.length cb,
          Value.func (Fn.func 116) #[]
            #[Value.pointer (some { block := w1.heap.size + 1, off := 0 }),
              Value.pointer (some { block := w1.heap.size + 1 + 1, off := 0 })],
          .int .i64 x.1, .int .i64 x.2, undef, undef, undef, undef, undef, undef, undef, undef, undef, undef], defers := [] }) ?assign ?body ?done ?stop
  case assign =>
    intro l x W K hK
    gi_wp2
    exact hK
  case body =>
    rintro l pre x W ⟨⟨⟨v, hv, hrow, _⟩, hbx⟩, hB⟩ hlt
    have hc := hv.cell
    have hpl : (dif pre).length = pre.length := dif_length _
    have hq : (dif pre).length + 1 ≤ 65 := by omega
    clear hpl
    obtain ⟨xa, xb⟩ := x
    gi_wp2_with (gi_at_builtin; refine wpListIn_append_own _ rfl _ _ 30 rfl w.heap.size 3 i0 (.int .i64 0) 1 8 Tryz.underlying30 hi hz0 hz1 hz2 rfl (by decide) _ _ _ rfl (hrow.alloc _) ⟨W.heap.size, 0, none⟩ 1 1 [.int .i64 (wrap64 (xa - xb))] rfl rfl ?k1 ?k2 ?k3 ?k4 ?k5 ?_)
    case k1 => exact cell_one_new _ _ _
    case k2 => simp [Value.oneCell']
    case k3 => unfold maxLen; omega
    case k4 => omega
    case k5 => have := hB.size; simp; omega
    intro v' w2 hown' hgrow _
    obtain ⟨g', cap', rfl⟩ := ownsRow_succ hown'
    obtain ⟨hv1, hv2, hr2, hk2, hb2⟩ := hv.appended (by decide) hrow hB.size (by omega) hown' hgrow
    have hbb := boxed_kept_app (B := w1.heap.size) (v' := .slice (some ⟨g', 0, none⟩) ((dif pre).length + 1) cap') hbx (by omega) (by decide) hrow hgrow
    have hc1 := hv1.cell
    have hf1 := hv1.frozen
    gi_wp2
    exact ⟨hk2.from _, ⟨hb2, hbb⟩, ⟨⟨_, hv2, by rw [dif_snoc]; simpa using hr2, trivial⟩, hbb.trans hbx⟩, hB.trans hb2⟩
  case done =>
    rintro D zs W hD rfl ⟨⟨⟨v, hv, hrow, _⟩, hbx⟩, hB⟩ hK
    have hc := hv.cell
    rw [← HR.out] at hrow
    have hR : Kd.R (Kd.int .i64) 3 W w.heap.size (fun _ => True) v r := Kd.R_of_own (by simpa [encs] using hrow) (fun _ _ => trivial)
    obtain ⟨A, c, rfl⟩ := Kd.R_slice hR
    have hrl : r.length ≤ 64 := by rw [HR.out, dif_length, upto_length]; exact h0
    have hres := result_ok A c r W (Kd.R_reads' hR).2.2 (Kd.R_reads' hR).2.1 hrl HF.out
    gi_wp2_with fail
    refine ⟨trivial, (callsIn_wide.2 hres).mono ?_⟩
    rintro e w' ⟨rfl, rfl⟩
    gi_wp2
    refine ⟨by simp, .inl ⟨_, _, rfl, run_takeDeferred hK, ?_⟩⟩
    exact ⟨_, results_tmp2 rfl _ _ _, _, rfl, Kd.R_of_own (by simpa [encs] using ownsRow_putObj hrow _ hK rfl) (fun _ _ => trivial), hB.trans (belowK_b (w := w) (Nat.le_refl _) W D _ _ (by omega) hK rfl rfl)⟩
  case stop =>
    rintro D c pre W _ _ h _
    exact h.elim
def g_row_Sub.f (a b : List Int) : Option (List Int × Int) :=
  if 0 < a.length ∧ a.length ≤ 64 ∧ b.length = a.length ∧ a.all fitE = true ∧ b.all fitE = true ∧ (List.zipWith (fun x y => wrap64 (x - y)) a b).all fitE = true then some (List.zipWith (fun x y => wrap64 (x - y)) a b, 0) else none
theorem dif_zip (xs ys : List Int) (h : ys.length = xs.length) : List.zipWith (fun x y => wrap64 (x - y)) xs ys = dif (upto (fun j => (xs[j]?.getD 0, ys[j]?.getD 0)) xs.length) := by
  refine List.ext_getElem (by simp [dif_length, upto_length, h]) (fun i h1 h2 => ?_)
  have h3 : i < xs.length := by simpa [dif_length, upto_length] using h2
  simp [dif, upto, List.getElem?_eq_getElem h3, List.getElem?_eq_getElem (show i < ys.length by omega)]
theorem g_row_Sub.calls (A0 : Option Addr) (c0 : Nat) (l0 : List Int) (A1 : Option Addr) (c1 : Nat) (l1 : List Int) (r1 : List Int) (r2 : Int) (w : World) (hr0 : Kd.C (Kd.int .i64) w A0 l0.length l0) (hc0 : l0.length ≤ c0) (hr1 : Kd.C (Kd.int .i64) w A1 l1.length l1) (hc1 : l1.length ≤ c1) (h : g_row_Sub.f l0 l1 = some (r1, r2)) :
    Calls Tryz.prog 43 #[.slice A0 l0.length c0, .slice A1 l1.length c1] w fun e w' => ∃ v0_ : Value, e = .returned (.tuple #[v0_, .int .i64 r2]) ∧ Kd.R (Kd.int .i64) 3 w' w.heap.size (fun _ => True) v0_ r1 ∧ Below w.heap.size w w' := by
  unfold g_row_Sub.f at h
  split at h
  · rename_i hh
    obtain ⟨hp, h64, hl, ha, hb, hd⟩ := hh
    have hi := Option.some.inj h
    obtain ⟨rfl, rfl⟩ := Prod.mk.inj hi
    obtain ⟨ad, rfl, _⟩ := hr0.2.2 hp
    obtain ⟨ad1, rfl, _⟩ := hr1.2.2 (by omega)
    exact sub_calls ad ad1 c0 c1 l0 l1 _ w hr0 hc0 hr1 hc1 h64 hl ha hb hp (dif_zip _ _ hl) hd
  · cases h
end Go.Proofs.YtobdccgpbohpiaaGreatDoor
