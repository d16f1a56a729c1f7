/- Re: a part of the proof. -/
import Derived.Test.YtobdccgpbohpiaaGreatDoorRe25
import Derived.Test.YtobdccgpbohpiaaGreatDoorRe29
import Derived.Test.YtobdccgpbohpiaaGreatDoorRe37
set_option linter.unusedVariables false
set_option linter.unusedSimpArgs false
namespace Go.Proofs.YtobdccgpbohpiaaGreatDoor
open Go.RowKit Go.Lib Go.Sort F Go.Proofs.YtobdccgpbohpiaaGreatDoorW.PrintWords Go.Proofs.YtobdccgpbohpiaaGreatDoorW.PrintLast Go.Proofs.YtobdccgpbohpiaaGreatDoorW.PrintMore
structure Srt (W4 W5 : World) (ga gp : Nat) (va : Nat → Value) (L : List (List Int × S47)) (wr : World) (ix : List Nat) : Prop where
  bel : Below W4.heap.size W4 wr
  size : W5.heap.size ≤ wr.heap.size
  len : ix.length = L.length
  lt : ∀ t, t < L.length → ix.getD t L.length < L.length
  rows : 0 < L.length → ∃ cur : Array Value, wr.heap[ga]? = some (.cells cur 30 (0, 0)) ∧ ∀ t, t < L.length → cur[t]? = some (va (ix.getD t L.length))
  parts : 0 < L.length → ∃ cur : Array Value, wr.heap[gp]? = some (.cells cur 47 (0, 0)) ∧ ∀ t, t < L.length → cur[t * 2]? = some (.int .i64 (L.getD (ix.getD t L.length) zRP).2.f0) ∧ cur[t * 2 + 1]? = some (.int .i64 (L.getD (ix.getD t L.length) zRP).2.f1)
  rest : ∀ k, k ≠ ga → k ≠ gp → k < W5.heap.size → wr.heap[k]? = W5.heap[k]?
section
variable {W4 W5 : World} {ga gp : Nat} {va : Nat → Value} {L : List (List Int × S47)} {wr : World} {ix : List Nat}
theorem Srt.cellA (h : Srt W4 W5 ga gp va L wr ix) {t : Nat} (ht : t < L.length) : wr.cell? ⟨ga, t, none⟩ = some (va (ix.getD t L.length)) ∧ wr.frozen? ⟨ga, t, none⟩ = false := by
  obtain ⟨c1, r1, r2⟩ := h.rows (by omega)
  exact ⟨by simp [World.cell?, r1, r2 t ht], by simp [World.frozen?, r1]⟩
theorem Srt.cellP (h : Srt W4 W5 ga gp va L wr ix) {t : Nat} (ht : t < L.length) : wr.cell? ⟨gp, t * 2, none⟩ = some (.int .i64 (L.getD (ix.getD t L.length) zRP).2.f0) ∧ wr.cell? ⟨gp, t * 2 + 1, none⟩ = some (.int .i64 (L.getD (ix.getD t L.length) zRP).2.f1) ∧ wr.frozen? ⟨gp, t * 2, none⟩ = false ∧ wr.frozen? ⟨gp, t * 2 + 1, none⟩ = false := by
  obtain ⟨c1, r1, r2⟩ := h.parts (by omega)
  exact ⟨by simp [World.cell?, r1, (r2 t ht).1], by simp [World.cell?, r1, (r2 t ht).2], by simp [World.frozen?, r1], by simp [World.frozen?, r1]⟩
theorem Srt.C (h : Srt W4 W5 ga gp va L wr ix) {A : Option Addr} (hA : 0 < L.length → A = some ⟨ga, 0, none⟩) (hL : L.length ≤ 100000) (hf : ∀ j, j < L.length → Kd.FK (Kd.slice 3 (Kd.int .i64)) W5 (fun k => (True ∧ k ≠ gp) ∧ k ≠ ga) (L.getD j zRP).1 [va j]) {m : Nat} (hm : m ≤ L.length) :
    Kd.C (Kd.slice 3 (Kd.int .i64)) wr A m ((ix.map fun t => (L.getD t zRP).1).take m) := by
  have hlen : ((ix.map fun t => (L.getD t zRP).1).take m).length = m := by rw [List.length_take, List.length_map, h.len]; omega
  refine ⟨hlen, by omega, fun hp => ⟨_, hA (by omega), fun j p hj => ?_⟩⟩
  have hjm : j < m := by have := (List.getElem?_eq_some_iff.1 hj).1; omega
  have hp : p = (L.getD (ix.getD j L.length) zRP).1 := by
    rw [List.getElem?_take_of_lt hjm, List.getElem?_map] at hj
    obtain ⟨t, ht, rfl⟩ := Option.map_eq_some_iff.1 hj
    rw [List.getD_eq_getElem?_getD (l := ix), ht]; rfl
  have hk := Kd.FK_now (Kd.FK_step (hf _ (h.lt j (by omega))) (W1 := wr) (fun k hk hlt => h.rest k hk.2 hk.1.2 hlt))
  rw [← hp] at hk
  refine ⟨_, rfl, hk, fun i u hu => ?_⟩
  cases i with
  | zero =>
    obtain rfl := Option.some.inj hu
    rw [add_at]
    show wr.cell? ⟨ga, 0 + (j * 1 + 0), none⟩ = _
    rw [Nat.zero_add, Nat.mul_one, Nat.add_zero]
    exact (h.cellA (by omega)).1
  | succ i => simp at hu
end
theorem srt_start {W3 W4 : World} {A4 A5 : Option Addr} {c4 c5 : Nat} {L : List (List Int × S47)} (hS : Kd.S (Kd.slice 3 (Kd.int .i64)) 30 W4 W3.heap.size (fun _ => True) (.slice A4 L.length c4) (L.map Prod.fst)) (hR : Kd.R k47 47 W4 W3.heap.size (fun _ => True) (.slice A5 L.length c5) (L.map Prod.snd)) (hb : Below W3.heap.size W3 W4) :
    ∃ (ga gp : Nat) (va : Nat → Value), (0 < L.length → A4 = some ⟨ga, 0, none⟩ ∧ A5 = some ⟨gp, 0, none⟩) ∧ W3.heap.size ≤ ga ∧ W3.heap.size ≤ gp ∧ ga ≠ gp ∧ L.length ≤ c4 ∧ L.length ≤ c5 ∧ (∀ j, j < L.length → Kd.FK (Kd.slice 3 (Kd.int .i64)) W4 (fun k => (True ∧ k ≠ gp) ∧ k ≠ ga) (L.getD j zRP).1 [va j]) ∧ Srt W3 W4 ga gp va L W4 (List.range L.length) := by
  have h4 := (Kd.S_reads' hS).2.1
  have h5 := (Kd.R_reads' hR).2.1
  by_cases hn : 0 < L.length
  · obtain ⟨gp, cp, curp, rowsp, hvp, hbp, hglp, _, hgp, _, _, _, hlp, hcp, hfp⟩ := N_open (Kd.R_N hR) (by rw [List.length_map]; exact hn)
    obtain ⟨ga, ca, cura, va, hva, hba, hgla, hoka, hga, _, _, _, hca⟩ := N_cells (Kd.S_N (Kd.S_types hS hgp (by decide))) (by rw [List.length_map]; exact hn)
    injection hva with hva1
    injection hvp with hvp1
    have hgx : ∀ t, t < L.length → (List.range L.length).getD t L.length = t := fun t ht => by
      rw [List.getD_eq_getElem?_getD, List.getElem?_range ht]; rfl
    refine ⟨ga, gp, va, fun _ => ⟨hva1, hvp1⟩, hba, hbp, hoka.2, h4, h5, fun j hj => ?_, hb, Nat.le_refl _, List.length_range, fun t ht => by rw [hgx t ht]; exact ht, fun _ => ⟨cura, hga, fun t ht => ?_⟩, fun _ => ⟨curp, hgp, fun t ht => ?_⟩, fun _ _ _ _ => rfl⟩
    · have h := (hca j (by rw [List.length_map]; exact hj)).2.2
      have e : (L.map Prod.fst).getD j [] = (L.getD j zRP).1 := by
        rw [List.getD_eq_getElem?_getD, List.getD_eq_getElem?_getD, List.getElem?_map, List.getElem?_eq_getElem hj]; rfl
      rw [e] at h
      exact h
    · rw [hgx t ht]
      exact (hca t (by rw [List.length_map]; exact ht)).1
    · rw [hgx t ht]
      rw [List.length_map] at hlp
      have hr : rowsp[t]? = some (rowsp.getD t []) := by rw [List.getD_eq_getElem?_getD, List.getElem?_eq_getElem (by omega)]; rfl
      have hx : (L.map Prod.snd)[t]? = some (L.getD t zRP).2 := by
        rw [List.getElem?_map, List.getD_eq_getElem?_getD, List.getElem?_eq_getElem ht]; rfl
      have e := k47_open (Kd.FK_now (hfp t _ _ hx hr))
      have hc := (hcp t _ hr).2.2
      rw [e] at hc
      exact ⟨hc 0 _ rfl, hc 1 _ rfl⟩
  · have e : L.length = 0 := by omega
    exact ⟨W3.heap.size, W3.heap.size + 1, fun _ => .bool false, fun h => absurd h hn, Nat.le_refl _, by omega, by omega, h4, h5, fun j hj => absurd hj (by omega), hb, Nat.le_refl _, List.length_range, fun t ht => absurd ht (by omega), fun h => absurd h hn, fun h => absurd h hn, fun _ _ _ _ => rfl⟩
theorem leI_calls {L : List (List Int × S47)} (hb : ∀ q ∈ L, (1 ≤ q.2.f0 ∧ q.2.f0 ≤ 130) ∧ 1 ≤ q.2.f1 ∧ q.2.f1 ≤ 130) {i j : Nat} (hi : i < L.length) (hj : j < L.length) (W : World) :
    Calls Tryz.prog 18 #[.agg #[.int .i64 (L.getD i zRP).2.f0, .int .i64 (L.getD i zRP).2.f1], .agg #[.int .i64 (L.getD j zRP).2.f0, .int .i64 (L.getD j zRP).2.f1]] W fun e w' => e = .returned (.bool (leI L i j)) ∧ ∃ q os', w' = grow (W.drewN q) os' := by
  have e : ∀ t, t < L.length → L.getD t zRP ∈ L := fun t ht => by
    rw [List.getD_eq_getElem?_getD, List.getElem?_eq_getElem ht]
    exact List.getElem_mem ht
  have h1 := hb _ (e i hi)
  have h2 := hb _ (e j hj)
  exact less_calls _ _ _ _ W h1.1 h1.2 h2.1 h2.2
end Go.Proofs.YtobdccgpbohpiaaGreatDoor
