/- Ch: a part of the proof. -/
import Derived.Test.YtobdccgpbohpiaaGreatDoorCh3
set_option linter.unusedVariables false
set_option linter.unusedSimpArgs false
namespace Go.Proofs.YtobdccgpbohpiaaGreatDoor
open Go.ChangeShapes Go.WideShapes Go.ChangeAt Go.RowKit Go.Proofs.YtobdccgpbohpiaaGreatDoorW.PrintWords
set_option maxRecDepth 100000 in
theorem row_open {H : Type} {enc : TypeId × Value → H} {W : World} {base : Nat} {t : TypeId} {v0 : Value} {d0 : DataW H} {ps : List MemPlace} (ht : Tryz.prog.underlying t = some (.slice 3)) (hval : Value.okWide Tryz.prog W .any base t v0) (h0 : DataW.Trod enc Tryz.prog W 0 (fun _ => true) true t v0 d0 ps) :
    ∃ (A : Option Addr) (c : Nat) (zs : List Int), v0 = .slice A zs.length c ∧ zs.length ≤ c ∧ Kd.C (Kd.int .i64) W A zs.length zs ∧ ∀ x ∈ ps, x.block < W.heap.size := by
  obtain ⟨a0, len0, cap0, rfl⟩ := okWide_slice ht hval
  have lt0 : ∀ x ∈ ps, x.block < W.heap.size := by obtain ⟨m, hm⟩ := h0; exact DataW.trod_lt m _ _ _ hm
  obtain ⟨fuel, hf⟩ := h0
  rcases open_ints ht Tryz.underlying3 (by kernel_rfl) hf with ⟨hcs, _⟩ | ⟨x, l, c, zs, hcs, _, hl, hm, hz, _, hcell, hwz⟩
  · simp [Value.cells] at hcs
    obtain ⟨rfl, rfl, rfl⟩ := hcs
    exact ⟨none, 0, [], rfl, Nat.le_refl _, Kd.C_nil _ _, lt0⟩
  · simp [Value.cells] at hcs
    obtain ⟨rfl, rfl, rfl⟩ := hcs
    have hz2 : zs.length = cap0 := by simpa using hz
    have hl2 : (zs.take len0).length = len0 := by rw [List.length_take]; omega
    refine ⟨some x, cap0, zs.take len0, by rw [hl2], by omega, ⟨rfl, by unfold maxLen at hm; omega, fun _ => ⟨x, rfl, fun j p hj => ⟨[.int .i64 p], rfl, rfl, fun i u hu => ?_⟩⟩⟩, lt0⟩
    cases i with
    | zero =>
      obtain rfl := Option.some.inj hu
      have hjl : j < len0 := by rw [← hl2]; exact (List.getElem?_eq_some_iff.1 hj).1
      have h1 := hcell j (by omega)
      rw [List.getElem?_take, if_pos hjl] at hj
      rw [List.getD_eq_getElem?_getD, hj] at h1
      have e : x.add (j * (Kd.int .i64).sz + 0) = x.add j := by
        show x.add (j * 1 + 0) = _
        rw [Nat.mul_one, Nat.add_zero]
      rw [e]
      exact h1
    | succ i => simp at hu
end Go.Proofs.YtobdccgpbohpiaaGreatDoor
