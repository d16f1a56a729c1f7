/- Ch: a part of the proof. -/
import Derived.Lib.SliceRun
import Derived.Shelf.Abstract
import Derived.Test.YtobdccgpbohpiaaGreatDoorCh26
import Derived.Test.YtobdccgpbohpiaaGreatDoorCh28
set_option linter.unusedVariables false
set_option linter.unusedSimpArgs false
namespace Go.Proofs.YtobdccgpbohpiaaGreatDoor
open Go.RowKit Go.Shelf Go.Lib Go.Sort F Go.Proofs.YtobdccgpbohpiaaGreatDoorW.PrintWords Go.Proofs.YtobdccgpbohpiaaGreatDoorW.PrintLast Go.Proofs.YtobdccgpbohpiaaGreatDoorW.PrintMore
theorem eqRow_loop (x y : List Int) (hl : x.length = y.length) (hb : x.length < 4611686018427387904) : ∀ (m i : Nat), i + m = x.length → Ev (fun k => G.api_Row_int.l0 k x y (x.length : Int) i) (decide (x.drop i = y.drop i)) := by
  intro m
  induction m with
  | zero =>
    intro i hi
    refine Ev.succ (fun k => by rw [G.api_Row_int.l0]) (Ev.neg (by omega) ?_)
    rw [List.drop_eq_nil_of_le (by omega), List.drop_eq_nil_of_le (by omega), decide_eq_true rfl]
    exact Ev.pure _
  | succ m ih =>
    intro i hi
    have hix : i < x.length := by omega
    have hiy : i < y.length := by omega
    have hw : wrap64 ((i : Int) + 1) = ((i + 1 : Nat) : Int) := by rw [wrap64_id (by omega)]; omega
    have h3 := ih (i + 1) (by omega)
    have e1 : rd x (i : Int) = x[i] := by rw [rd_nat, List.getD_eq_getElem?_getD, List.getElem?_eq_getElem hix]; rfl
    have e2 : rd y (i : Int) = y[i] := by rw [rd_nat, List.getD_eq_getElem?_getD, List.getElem?_eq_getElem hiy]; rfl
    refine Ev.succ (fun k => by rw [G.api_Row_int.l0]) ?_
    rw [hw, e1, e2, List.drop_eq_getElem_cons hix, List.drop_eq_getElem_cons hiy]
    clear hw e1 e2
    refine Ev.pos (by omega) (Ev.pos (by omega) (Ev.pos (by omega) (Ev.pos (by omega) ?_)))
    generalize x[i] = a
    generalize y[i] = b
    generalize hu : x.drop (i + 1) = u at h3 ⊢
    generalize hv : y.drop (i + 1) = v at h3 ⊢
    by_cases h : a = b
    · have : decide (a :: u = b :: v) = decide (u = v) := by simp [h]
      rw [this]
      exact Ev.pos h h3
    · have : decide (a :: u = b :: v) = false := by simp [h]
      rw [this]
      exact Ev.neg h (Ev.pure _)
theorem eqRow_ev (x y : List Int) (hb : x.length < 4611686018427387904) : Ev (fun k => G.row_Equal.f k x y) (decide (x = y)) := by
  unfold G.row_Equal.f
  refine Ev.bind ?_ (Ev.pure _)
  unfold G.api_Row_int.f
  by_cases h : x.length = y.length
  · have := eqRow_loop x y h hb x.length 0 (by omega)
    rw [List.drop_zero, List.drop_zero] at this
    exact Ev.pos (by omega) this
  · have : decide (x = y) = false := decide_eq_false (fun e => h (by rw [e]))
    rw [this]
    exact Ev.neg (by omega) (Ev.pure _)
def keepAt (xs : List (List Int)) (t : Nat) : Bool := t == 0 || decide (xs.getD t [] ≠ xs.getD (t - 1) [])
def keepIx (xs : List (List Int)) (m : Nat) : List Nat := (List.range m).filter (keepAt xs)
def compactL (xs : List (List Int)) : List (List Int) := (keepIx xs xs.length).map fun i => xs.getD i []
theorem keepIx_succ (xs : List (List Int)) (m : Nat) : keepIx xs (m + 1) = keepIx xs m ++ if keepAt xs m = true then [m] else [] := by
  unfold keepIx
  rw [List.range_succ, List.filter_append]
  congr 1
  by_cases h : keepAt xs m = true
  · rw [if_pos h, List.filter_cons_of_pos h]; rfl
  · rw [if_neg h, List.filter_cons_of_neg h]; rfl
theorem N_cells {base : Nat} {ok : Nat → Prop} {W : World} {v : Value} {xs : List (List Int)} (h : Kd.N (Kd.slice 3 (Kd.int .i64)) 30 W base ok v xs) (hp : 0 < xs.length) :
    ∃ (g cap : Nat) (cur : Array Value) (vs : Nat → Value), v = .slice (some ⟨g, 0, none⟩) xs.length cap ∧ base ≤ g ∧ g < W.heap.size ∧ ok g ∧ W.heap[g]? = some (.cells cur 30 (0, 0)) ∧ xs.length ≤ cap ∧ cap ≤ maxLen ∧ cur.size = cap ∧
      (∀ j, j < xs.length → cur[j]? = some (vs j) ∧ (vs j).oneCell' = true ∧ Kd.FK (Kd.slice 3 (Kd.int .i64)) W (fun k => ok k ∧ k ≠ g) (xs.getD j []) [vs j]) := by
  obtain ⟨g, cap, cur, rows, hv, hb, hgl, hok, hg, hcap, hcm, hcs, hl, hc, hf⟩ := N_open h hp
  have z1 : (Kd.slice 3 (Kd.int .i64)).sz = 1 := rfl
  refine ⟨g, cap, cur, fun j => (rows.getD j []).getD 0 (.bool false), hv, hb, hgl, hok, hg, hcap, hcm, by rw [hcs, z1, Nat.mul_one], fun j hj => ?_⟩
  have hr : rows[j]? = some (rows.getD j []) := by rw [List.getD_eq_getElem?_getD, List.getElem?_eq_getElem (by omega)]; rfl
  obtain ⟨c1, c2, c3⟩ := hc j _ hr
  rw [z1] at c1 c3
  have hone : rows.getD j [] = [(rows.getD j []).getD 0 (.bool false)] := by
    match hq : rows.getD j [], c1 with
    | [x], _ => rfl
  have h3 := c3 0 ((rows.getD j []).getD 0 (.bool false)) (by rw [hone]; rfl)
  rw [Nat.mul_one, Nat.add_zero] at h3
  have hx : xs[j]? = some (xs.getD j []) := by rw [List.getD_eq_getElem?_getD, List.getElem?_eq_getElem hj]; rfl
  have hk := hf j _ _ hx hr
  refine ⟨h3, c2 _ (by rw [hone]; exact List.mem_singleton.2 rfl), ?_⟩
  rw [hone] at hk
  exact hk
theorem eq_at {W W' : World} {ok : Nat → Prop} {x y : List Int} {vx vy : Value} (hx : Kd.FK (Kd.slice 3 (Kd.int .i64)) W ok x [vx]) (hy : Kd.FK (Kd.slice 3 (Kd.int .i64)) W ok y [vy]) (hb : x.length < 4611686018427387904)
    (hm : ∀ k, ok k → k < W.heap.size → W'.heap[k]? = W.heap[k]?) : Calls Tryz.prog 54 #[vx, vy] W' fun e w' => e = .returned (.bool (decide (x = y))) ∧ ∃ q, w' = W'.drewN q := by
  obtain ⟨A1, c1, e1, l1, g1⟩ := Kd.FK_slice_open (Kd.FK_step hx hm)
  obtain ⟨A2, c2, e2, l2, g2⟩ := Kd.FK_slice_open (Kd.FK_step hy hm)
  injection e1 with e1 _
  injection e2 with e2 _
  subst e1 e2
  obtain ⟨k, hk⟩ := eqRow_ev x y hb
  exact (G.row_Equal.calls k A1 c1 x A2 c2 y _ W' (Kd.F_now g1) l1 (Kd.F_now g2) l2 (hk k (Nat.le_refl _))).mono fun _ _ h => ⟨h.1, h.2.out⟩
theorem setCell_at {W : World} {g : Nat} {cur : Array Value} {e : Nat} {fr : Nat × Nat} (h : W.heap[g]? = some (.cells cur e fr)) (i : Nat) (v : Value) :
    (W.setCell ⟨g, i, none⟩ v).heap[g]? = some (.cells (cur.setIfInBounds i v) e fr) ∧ (∀ k, k ≠ g → (W.setCell ⟨g, i, none⟩ v).heap[k]? = W.heap[k]?) := by
  unfold World.setCell
  constructor
  · simp [Array.getElem?_modify, h]
  · intro k hk
    simp [Array.getElem?_modify, Ne.symm hk]
theorem setCells_at {g : Nat} {e : Nat} {fr : Nat × Nat} : ∀ (vs : List Value) (o : Nat) (W : World) (cur : Array Value), W.heap[g]? = some (.cells cur e fr) →
    (∃ cur' : Array Value, (W.setCells g o vs).heap[g]? = some (.cells cur' e fr) ∧ cur'.size = cur.size ∧ ∀ t, t < o → cur'[t]? = cur[t]?) ∧ (∀ k, k ≠ g → (W.setCells g o vs).heap[k]? = W.heap[k]?)
  | [], o, W, cur, h => ⟨⟨cur, h, rfl, fun _ _ => rfl⟩, fun _ _ => rfl⟩
  | v :: vs, o, W, cur, h => by
    obtain ⟨h1, h2⟩ := setCell_at h o v
    obtain ⟨⟨cur', a1, a2, a3⟩, b⟩ := setCells_at vs (o + 1) _ _ h1
    rw [World.setCells]
    refine ⟨⟨cur', a1, by rw [a2, Array.size_setIfInBounds], fun t ht => ?_⟩, fun k hk => by rw [b k hk, h2 k hk]⟩
    rw [a3 t (by omega), Array.getElem?_setIfInBounds, if_neg (by omega)]
theorem below_setCells1 {B b : Nat} {a : World} (hb : B ≤ b) : ∀ (vs : List Value) (o : Nat) (w : World), RowKit.Below B a w → RowKit.Below B a (w.setCells b o vs)
  | [], _, _, h => h
  | v :: r, o, w, h => below_setCells1 hb r (o + 1) _ (h.setCell (by exact hb) v)
def g_compact_Row.f (l : List (List Int)) : Option (List (List Int)) := if fitRows l = true then some (compactL l) else none
set_option maxRecDepth 100000 in
set_option maxHeartbeats 4000000 in
theorem g_compact_Row.calls {base : Nat} {ok : Nat → Prop} {W : World} {A : Option Addr} {n c : Nat} {l r : List (List Int)} (h : Kd.N (Kd.slice 3 (Kd.int .i64)) 30 W base ok (.slice A n c) l) (hf : g_compact_Row.f l = some r) :
    Calls Tryz.prog 53 #[.slice A n c, .func (.func 54) #[] #[]] W fun e w' => ∃ v, e = .returned v ∧ Kd.N (Kd.slice 3 (Kd.int .i64)) 30 w' base ok v r ∧ RowKit.Below base W w' := by
  unfold g_compact_Row.f at hf
  split at hf
  · rename_i hfit
    obtain rfl := Option.some.inj hf
    simp only [fitRows, Bool.and_eq_true, decide_eq_true_eq, List.all_eq_true] at hfit
    obtain ⟨hlen, hall⟩ := hfit
    have hnl := (Kd.N_reads' h).1
    subst hnl
    by_cases h2 : l.length < 2
    · have hc : compactL l = l := by
        unfold compactL
        match l, h2 with
        | [], _ => rfl
        | [x], _ => rfl
      rw [hc]
      have H := Aside0.mk h
      have h2d : decide ((l.length : Int) < 2) = true := decide_eq_true (by omega)
      clear h hf hc hlen hall h2
      go_enter Tryz.func53, Tryz.ntmps53
      go_wp2
      go_ret
      exact ⟨_, rfl, H.out, RowKit.Below.refl _ _⟩
    · obtain ⟨g, cap, cur, vs, hv, hb, hgl, hok, hg, hcap, hcm, hcs, hall2⟩ := N_cells h (by omega)
      injection hv with hv1 _ hv3
      subst hv1 hv3
      have hn2 : decide ((l.length : Int) < 2) = false := decide_eq_false (by omega)
      have HE : Aside0 (∀ (i j : Nat) (W' : World), i < l.length → j < l.length → (∀ k, (ok k ∧ k ≠ g) → k < W.heap.size → W'.heap[k]? = W.heap[k]?) → Calls Tryz.prog 54 #[vs i, vs j] W' fun e w' => e = .returned (.bool (decide (l.getD i [] = l.getD j []))) ∧ ∃ q, w' = W'.drewN q) :=
        ⟨fun i j W' hi hj hm => eq_at (hall2 i hi).2.2 (hall2 j hj).2.2 (hall _ (by rw [List.getD_eq_getElem?_getD, List.getElem?_eq_getElem hi]; exact List.getElem_mem _)) hm⟩
      have HCur : Aside0 (∀ j, j < l.length → cur[j]? = some (vs j)) := ⟨fun j hj => (hall2 j hj).1⟩
      have HV : Aside0 (∀ j, j < l.length → ∃ A n c, vs j = .slice A n c) := ⟨fun j hj => by
        obtain ⟨A, c, h1, _⟩ := Kd.FK_slice_open (hall2 j hj).2.2
        injection h1 with h1 _
        exact ⟨A, _, c, h1⟩⟩
      have HFK : Aside0 (∀ j, j < l.length → Kd.FK (Kd.slice 3 (Kd.int .i64)) W (fun k => ok k ∧ k ≠ g) (l.getD j []) [vs j]) := ⟨fun j hj => (hall2 j hj).2.2⟩
      have HG := Aside0.mk hg
      have HN := Aside0.mk h
      have HL := Aside0.mk (And.intro hlen (And.intro hcap (And.intro hcm hcs)))
      clear h hf hlen hall hall2 hcap hcm hcs hg
      have eg : ∀ args w, (callFunc 54 args).run Tryz.prog w = .ok (.enter 54 args) w := enters_of Tryz.func54 (by kernel_rfl) rfl
      go_enter Tryz.func53, Tryz.ntmps53
      go_wp2
      go_loopg [5] l.length (fun gg s5 wr => ∃ (kk q : Nat), s5 = .int .i64 kk ∧ 1 ≤ kk ∧ kk ≤ l.length ∧ l.length - kk ≤ gg ∧ wr = W.drewN q ∧ Aside0 (∀ t, t < kk → keepAt l t = true))
      case atStart => exact ⟨1, 0, rfl, Nat.le_refl _, by omega, by omega, rfl, ⟨fun t ht => by
        have h0 : t = 0 := by omega
        subst h0; rfl⟩⟩
      case round =>
        obtain ⟨kk, q, rfl, hk1, hkn, hgg, rfl, HKeep⟩ := hrel
        by_cases hlt : kk < l.length
        · have hltz : decide ((kk : Int) < (l.length : Int)) = true := decide_eq_true (by omega)
          have hck : W.cell? ⟨g, kk, none⟩ = some (vs kk) := by simp [World.cell?, HG.out, HCur.out kk hlt]
          obtain ⟨k1, hk1e⟩ : ∃ k1, k1 = kk - 1 := ⟨_, rfl⟩
          have hck1 : W.cell? ⟨g, k1, none⟩ = some (vs k1) := by simp [World.cell?, HG.out, HCur.out k1 (by omega)]
          have hw1 : wrap64 ((kk : Int) - 1) = (k1 : Int) := by rw [wrap64_id (by have := HL.out.1; omega)]; omega
          have hw2 : IntKind.i64.wrap ((kk : Int) - 1) = (k1 : Int) := by rw [IntKind.wrap_i64]; have := HL.out.1; omega
          have hkz : (kk : Int) < (l.length : Int) := by clear hw1 hw2; omega
          have hk1z : (k1 : Int) < (l.length : Int) := by clear hw1 hw2; omega
          have hE := fun m => HE.out kk k1 (W.drewN m) hlt (by clear hw1 hw2; omega) (fun _ _ _ => rfl)
          obtain ⟨bq, HBq⟩ : ∃ bq : Bool, Aside0 (bq = decide (l.getD kk [] = l.getD k1 [])) := ⟨_, ⟨rfl⟩⟩
          simp only [← HBq.out] at hE
          have HE1 := Aside0.mk hE
          have HK := Aside0.mk (And.intro hlt hk1e)
          clear hE hlt hk1e
          go_wp2
          go_quiet (first | (refine (HE1.out _).mono ?_; rintro e w' ⟨rfl, ⟨nd, rfl⟩⟩; exact ⟨rfl, _, by rw [World.drewN_drewN, Nat.add_assoc]⟩))
          cases hbq : bq with
          | false =>
            go_wp2
            go_roundg (l.length - (kk + 1))
            case measure => have := HK.out.1; omega
            case rel =>
              obtain ⟨z1, z2⟩ := HK.out
              have hl3 := HL.out.1
              clear hw1 hw2
              refine ⟨kk + 1, q + nq, ?_, by omega, by omega, Nat.le_refl _, rfl, ⟨fun t ht => ?_⟩⟩
              · congr 1
                rw [wrap64_id (by omega)]; omega
              · by_cases h3 : t < kk
                · exact HKeep.out t h3
                · have h4 : t = kk := by omega
                  subst h4
                  have h5 := HBq.out
                  rw [hbq] at h5
                  have h6 := of_decide_eq_false h5.symm
                  subst z2
                  unfold keepAt
                  rw [decide_eq_true h6, Bool.or_true]
          | true =>
            obtain ⟨z1, z2⟩ := HK.out
            have hl3 := HL.out
            have hck0 : ¬ (c = kk) := by clear hw1 hw2; omega
            have hkk0 : ¬ (kk = 0) := by clear hw1 hw2; omega
            have hkc : (kk : Int) ≤ (c : Int) := by clear hw1 hw2; omega
            have hkl : (kk : Int) ≤ (l.length : Int) := by clear hw1 hw2; omega
            clear hl3 z1 z2
            go_wp2
            clear hck hck1 hw1 hw2 hkz hk1z HE1
            go_loopg [5, 7] l.length (fun gg s5 s7 wr => ∃ (i j : Nat) (cur2 : Array Value) (ix : List Nat), s5 = .int .i64 i ∧ s7 = .int .i64 j ∧ 1 ≤ j ∧ kk + j ≤ l.length ∧ l.length - (kk + j) ≤ gg ∧ Aside0 (RowKit.Below base W wr ∧ wr.heap[g]? = some (.cells cur2 30 (0, 0)) ∧ ∀ k, k ≠ g → wr.heap[k]? = W.heap[k]?) ∧
              Aside0 (ix.length = l.length ∧ cur2.size = c ∧ (∀ t, t < l.length → cur2[t]? = some (vs (ix.getD t 0))) ∧ i = (keepIx l (kk + j)).length ∧ i < kk + j ∧ ix.take i = keepIx l (kk + j) ∧ (∀ t, kk + j ≤ t + 1 → t < l.length → ix.getD t 0 = t)))
            case atStart =>
              have z1 := HK.out
              have z2 := HL.out
              have hkp : keepAt l kk = false := by
                have h5 := HBq.out
                rw [hbq] at h5
                have h6 := of_decide_eq_true h5.symm
                unfold keepAt
                rw [← z1.2, h6]
                simp; omega
              have hK1 : keepIx l (kk + 1) = List.range kk := by
                rw [keepIx_succ, hkp, if_neg (by decide), List.append_nil]
                exact List.filter_eq_self.2 (fun t ht => HKeep.out t (List.mem_range.1 ht))
              refine ⟨kk, 1, cur, List.range l.length, rfl, rfl, Nat.le_refl _, by omega, by omega, ⟨pw_below_drewN (RowKit.Below.refl _ _) _, HG.out, fun _ _ => rfl⟩, ⟨List.length_range, z2.2.2.2, fun t ht => ?_, ?_, by omega, ?_, fun t ht htl => ?_⟩⟩
              · rw [List.getD_eq_getElem?_getD, List.getElem?_range ht]
                exact HCur.out t ht
              · rw [hK1, List.length_range]
              · rw [hK1, List.take_range]; congr 1; omega
              · rw [List.getD_eq_getElem?_getD, List.getElem?_range htl]; rfl
            case round =>
              obtain ⟨i, j, cur2, ix, rfl, rfl, hj1, hjl, hgg2, HW, HI⟩ := hrel
              by_cases hlt2 : kk + j < l.length
              · have hltz2 : decide ((j : Int) < ((l.length - kk : Nat) : Int)) = true := decide_eq_true (by omega)
                have hltz3 : (j : Int) < ((l.length - kk : Nat) : Int) := by omega
                obtain ⟨i1, i2, i3, i4, i5, i6, i7⟩ := HI.out
                obtain ⟨hB3, hh3, ho3⟩ := HW.out
                obtain ⟨j1, hj1e⟩ : ∃ j1, j1 = j - 1 := ⟨_, rfl⟩
                have k1_ := i3 (kk + j) hlt2
                rw [i7 (kk + j) (by omega) hlt2] at k1_
                have k2_ := i3 (kk + j1) (by omega)
                rw [i7 (kk + j1) (by omega) (by omega)] at k2_
                have hcj : wr.cell? ⟨g, kk + j, none⟩ = some (vs (kk + j)) := by simp [World.cell?, hh3, k1_]
                have hcj1 : wr.cell? ⟨g, kk + j1, none⟩ = some (vs (kk + j1)) := by simp [World.cell?, hh3, k2_]
                clear k1_ k2_
                have hfi : wr.frozen? ⟨g, i, none⟩ = false := by simp [World.frozen?, hh3]
                have hci : wr.cell? ⟨g, i, none⟩ = some (vs (ix.getD i 0)) := by simp [World.cell?, hh3, i3 i (by omega)]
                obtain ⟨bq2, HBq2⟩ : ∃ b : Bool, Aside0 (b = decide (l.getD (kk + j) [] = l.getD (kk + j1) [])) := ⟨_, ⟨rfl⟩⟩
                have hE2 := fun m => HE.out (kk + j) (kk + j1) (wr.drewN m) hlt2 (by omega) (fun k hk hl => ho3 k hk.2)
                obtain ⟨A2, n2, c2, hv2⟩ := HV.out (kk + j) hlt2
                simp only [← HBq2.out, hv2] at hE2
                rw [hv2] at hcj
                have HV2 := Aside0.mk hv2
                clear hv2
                have HE2 := Aside0.mk hE2
                have hj1z : (j1 : Int) < ((l.length - kk : Nat) : Int) := by omega
                have hiz : (i : Int) < (l.length : Int) := by omega
                have hwj : IntKind.i64.wrap ((j : Int) - 1) = (j1 : Int) := by rw [IntKind.wrap_i64]; have := HL.out.1; omega
                have HW3 := Aside0.mk (And.intro hlt2 hj1e)
                clear hB3 hE2 hh3 ho3 i1 i2 i3 i4 i5 i6 i7 hlt2 hj1e
                go_wp2
                go_quiet (first | (refine (HE2.out _).mono ?_; rintro e w' ⟨rfl, ⟨nd, rfl⟩⟩; exact ⟨rfl, _, World.drewN_drewN _ _ _⟩))
                cases hbq2 : bq2 with
                | true =>
                  go_wp2
                  go_roundg (l.length - (kk + (j + 1)))
                  case measure => have := HW3.out; omega
                  case rel =>
                    obtain ⟨y4, y5⟩ := HW3.out
                    obtain ⟨i1, i2, i3, i4, i5, i6, i7⟩ := HI.out
                    obtain ⟨hB3, hh3, ho3⟩ := HW.out
                    have hl3 := HL.out.1
                    clear hwj
                    have hkp : keepAt l (kk + j) = false := by
                      have h5 := HBq2.out
                      rw [hbq2] at h5
                      have h6 := of_decide_eq_true h5.symm
                      unfold keepAt
                      rw [show kk + j - 1 = kk + j1 by omega, h6]
                      simp; omega
                    refine ⟨i, j + 1, cur2, ix, rfl, ?_, by omega, by omega, Nat.le_refl _, ⟨pw_below_drewN hB3 _, hh3, ho3⟩, ⟨i1, i2, i3, ?_, by omega, ?_, fun t ht htl => i7 t (by omega) htl⟩⟩
                    · congr 1
                      rw [wrap64_id (by omega)]; omega
                    · rw [show kk + (j + 1) = kk + j + 1 by omega, keepIx_succ, hkp, if_neg (by decide), List.append_nil]; exact i4
                    · rw [show kk + (j + 1) = kk + j + 1 by omega, keepIx_succ, hkp, if_neg (by decide), List.append_nil]; exact i6
                | false =>
                  go_wp2
                  go_roundg (l.length - (kk + (j + 1)))
                  case measure => have := HW3.out; omega
                  case rel =>
                    obtain ⟨y4, y5⟩ := HW3.out
                    obtain ⟨i1, i2, i3, i4, i5, i6, i7⟩ := HI.out
                    obtain ⟨hB3, hh3, ho3⟩ := HW.out
                    have hl3 := HL.out.1
                    clear hwj
                    have hkp : keepAt l (kk + j) = true := by
                      have h5 := HBq2.out
                      rw [hbq2] at h5
                      have h6 := of_decide_eq_false h5.symm
                      unfold keepAt
                      rw [show kk + j - 1 = kk + j1 by omega, decide_eq_true h6, Bool.or_true]
                    have hst := setCell_at (W := wr.drewN nq) hh3 i (vs (kk + j))
                    rw [← HV2.out]
                    have hlc := HL.out.2.1
                    refine ⟨i + 1, j + 1, cur2.setIfInBounds i (vs (kk + j)), ix.set i (kk + j), ?_, ?_, by omega, by omega, Nat.le_refl _, ⟨(pw_below_drewN hB3 _).setCell (by exact hb) _, hst.1, fun k hk => (hst.2 k hk).trans (ho3 k hk)⟩, ⟨by rw [List.length_set]; exact i1, by rw [Array.size_setIfInBounds]; exact i2, fun t ht => ?_, ?_, by omega, ?_, fun t ht htl => ?_⟩⟩
                    · congr 1
                      rw [wrap64_id (by omega)]; omega
                    · congr 1
                      rw [wrap64_id (by omega)]; omega
                    · by_cases hti : t = i
                      · subst hti
                        rw [Array.getElem?_setIfInBounds, if_pos rfl, if_pos (by omega), List.getD_eq_getElem?_getD, List.getElem?_set, if_pos rfl, if_pos (by omega)]; rfl
                      · rw [Array.getElem?_setIfInBounds, if_neg (Ne.symm hti), List.getD_eq_getElem?_getD, List.getElem?_set, if_neg (Ne.symm hti), ← List.getD_eq_getElem?_getD]
                        exact i3 t ht
                    · rw [show kk + (j + 1) = kk + j + 1 by omega, keepIx_succ, hkp, if_pos rfl, List.length_append, List.length_singleton, ← i4]
                    · rw [show kk + (j + 1) = kk + j + 1 by omega, keepIx_succ, hkp, if_pos rfl, ← i6, List.take_succ_eq_append_getElem (by rw [List.length_set]; omega), List.take_set_of_le (Nat.le_refl _), List.getElem_set_self]
                    · rw [List.getD_eq_getElem?_getD, List.getElem?_set, if_neg (by omega), ← List.getD_eq_getElem?_getD]
                      exact i7 t (by omega) htl
              · have hend : kk + j = l.length := by omega
                have hltz2 : decide ((j : Int) < ((l.length - kk : Nat) : Int)) = false := decide_eq_false (by omega)
                obtain ⟨i1, i2, i3, i4, i5, i6, i7⟩ := HI.out
                obtain ⟨hB3, hh3, ho3⟩ := HW.out
                have hil : i ≤ l.length := by omega
                have hic : i ≤ c := by have := HL.out.2.1; omega
                have hcl : ∀ ty, (Builtin.clear_ #[36] ty #[.slice (some ⟨g, i, none⟩) (l.length - i) (c - i)]).run Tryz.prog wr = .ok (.tuple #[]) (wr.setCells g i (List.replicate (l.length - i) (.slice none 0 0))) :=
                  fun ty => Lib.run_clear_slice wr 36 30 ty _ Tryz.underlying36 (by intro w; rfl) rfl rfl g i _ _ (by omega) (fun t ht => by simp [World.cell?, hh3, i3 (i + t) (by omega)]) (fun t ht => by simp [World.frozen?, hh3])
                have hst := setCells_at (List.replicate (l.length - i) (.slice none 0 0)) i wr cur2 hh3
                have hb4 := below_setCells1 (B := base) hb (List.replicate (l.length - i) (.slice none 0 0)) i wr hB3
                generalize wr.setCells g i (List.replicate (l.length - i) (.slice none 0 0)) = w4 at hcl hst hb4
                have HS := Aside0.mk (And.intro hst hb4)
                have hiz : ((i : Int) ≤ (l.length : Int)) := by omega
                have hic2 : ((i : Int) ≤ (c : Int)) := by omega
                have hci0 : ¬ (c = i) := by have := HL.out.2.1; omega
                clear hst hb4 hh3 ho3 i1 i2 i3 i4 i5 i6 i7 hB3
                go_wp2
                go_ret
                obtain ⟨⟨⟨cur4, s1, s2, s3⟩, s4⟩, s5⟩ := HS.out
                obtain ⟨i1, i2, i3, i4, i5, i6, i7⟩ := HI.out
                rw [hend] at i4 i6
                have hcl4 : (compactL l).length = i := by unfold compactL; rw [List.length_map, i4]
                have hat : ∀ t' t, (keepIx l l.length)[t']? = some t → t' < i ∧ t < l.length ∧ cur4[t']? = some (vs t) := fun t' t ht => by
                  have h1 : t' < i := by rw [i4]; exact (List.getElem?_eq_some_iff.1 ht).1
                  have h2 : t < l.length := by
                    have := List.mem_of_getElem? ht
                    unfold keepIx at this
                    exact List.mem_range.1 (List.mem_filter.1 this).1
                  refine ⟨h1, h2, ?_⟩
                  rw [s3 t' h1, i3 t' (by omega)]
                  rw [← i6, List.getElem?_take, if_pos h1] at ht
                  rw [List.getD_eq_getElem?_getD, ht]; rfl
                have key := N_close (w := W) (w' := w4) (d := Kd.slice 3 (Kd.int .i64)) (e := 30) (base := base) (ok := ok) (xs := compactL l) (cap := c) (cur' := cur4) (rows := (keepIx l l.length).map fun t => [vs t]) hb hgl hok s1 (by rw [hcl4]; exact hic) HL.out.2.2.1 (by rw [s2, i2]; exact (Nat.mul_one c).symm) (by rw [hcl4, List.length_map, i4]) (fun j' cs hj' => by
                  rw [List.getElem?_map, Option.map_eq_some_iff] at hj'
                  obtain ⟨t, ht, rfl⟩ := hj'
                  obtain ⟨h1, h2, h3⟩ := hat j' t ht
                  refine ⟨rfl, fun u hu => ?_, fun i' u hu => ?_⟩
                  · rw [List.mem_singleton.1 hu]
                    obtain ⟨A, n, c', hv⟩ := HV.out t h2
                    rw [hv]; rfl
                  · cases i' with
                    | zero =>
                      obtain rfl := Option.some.inj hu
                      show cur4[j' * 1 + 0]? = _
                      rw [Nat.mul_one, Nat.add_zero]; exact h3
                    | succ i' => simp at hu) (fun j' x cs hx hcs => by
                  unfold compactL at hx
                  rw [List.getElem?_map, Option.map_eq_some_iff] at hx hcs
                  obtain ⟨t, ht, rfl⟩ := hx
                  obtain ⟨t', ht', rfl⟩ := hcs
                  rw [ht] at ht'
                  obtain rfl := Option.some.inj ht'
                  exact HFK.out t (hat j' t ht).2.1) (fun k hk hne => by rw [s4 k hne]; exact HW.out.2.2 k hne)
                rw [hcl4] at key
                exact ⟨_, rfl, key, s5⟩
        · have hkk : kk = l.length := by omega
          subst hkk
          have hc : compactL l = l := by
            have h3 : keepIx l l.length = List.range l.length := List.filter_eq_self.2 (fun t ht => HKeep.out t (List.mem_range.1 ht))
            unfold compactL
            rw [h3]
            apply List.ext_getElem
            · simp
            · intro i h1 h2
              rw [List.getElem_map, List.getElem_range, List.getD_eq_getElem?_getD, List.getElem?_eq_getElem h2]; rfl
          have hltz : decide ((l.length : Int) < (l.length : Int)) = false := decide_eq_false (by omega)
          go_wp2
          go_ret
          rw [hc]
          exact ⟨_, rfl, Kd.N_drewN HN.out q, pw_below_drewN (RowKit.Below.refl _ _) q⟩
  · cases hf
end Go.Proofs.YtobdccgpbohpiaaGreatDoor
