/- Ch: a part of the proof. -/
import Derived.Test.YtobdccgpbohpiaaGreatDoorCh1
import Derived.Test.YtobdccgpbohpiaaGreatDoorCh2
set_option linter.unusedVariables false
set_option linter.unusedSimpArgs false
namespace Go.Proofs.YtobdccgpbohpiaaGreatDoor
open Go.RowKit Go.Lib Go.Proofs.YtobdccgpbohpiaaGreatDoorW.PrintWords Go.Proofs.YtobdccgpbohpiaaGreatDoorW.PrintLast Go.Proofs.YtobdccgpbohpiaaGreatDoorW.PrintMore
theorem C_lit {W : World} {g : Nat} (xs : List Int) {cs : Array Value} {e : Nat} (h : W.heap[g]? = some (.cells cs e (0, 0))) (hcs : cs = (xs.map (Value.int .i64)).toArray) (hl : xs.length ≤ 1000) : Kd.C (Kd.int .i64) W (some ⟨g, 0, none⟩) xs.length xs := by
  refine ⟨rfl, by omega, fun _ => ⟨_, rfl, fun j p hj => ⟨[.int .i64 p], rfl, rfl, fun i u hu => ?_⟩⟩⟩
  cases i with
  | zero =>
    obtain rfl := Option.some.inj hu
    rw [add_at]
    show W.cell? ⟨g, 0 + (j * 1 + 0), none⟩ = _
    rw [Nat.zero_add, Nat.mul_one, Nat.add_zero]
    simp [World.cell?, h, hcs, hj]
  | succ i => simp at hu
def AllC (W : World) : List (List Int) → List (Option Addr × Nat) → Prop
  | [], [] => True
  | x :: xs, a :: bs => (x.length ≤ a.2 ∧ Kd.C (Kd.int .i64) W a.1 x.length x) ∧ AllC W xs bs
  | _, _ => False
def cellsC : List (List Int) → List (Option Addr × Nat) → List Value
  | x :: xs, a :: bs => .slice a.1 x.length a.2 :: cellsC xs bs
  | _, _ => []
theorem AllC.at {W : World} : ∀ {xs : List (List Int)} {bs : List (Option Addr × Nat)}, AllC W xs bs → ∀ (j : Nat) (x : List Int), xs[j]? = some x → ∃ (A : Option Addr) (c : Nat), (cellsC xs bs)[j]? = some (Value.slice A x.length c) ∧ x.length ≤ c ∧ Kd.C (Kd.int .i64) W A x.length x
  | [], [], _, j, x, hj => by simp at hj
  | y :: xs, a :: bs, h, 0, x, hj => by
    obtain rfl := Option.some.inj hj
    exact ⟨a.1, a.2, rfl, h.1.1, h.1.2⟩
  | y :: xs, a :: bs, h, j + 1, x, hj => AllC.at (xs := xs) (bs := bs) h.2 j x hj
theorem C_lits {W : World} {g : Nat} (xs : List (List Int)) (bs : List (Option Addr × Nat)) {cs : Array Value} {e : Nat} (h : W.heap[g]? = some (.cells cs e (0, 0))) (hcs : cs = (cellsC xs bs).toArray) (ha : AllC W xs bs) (hl : xs.length ≤ 1000) : Kd.C (Kd.slice 3 (Kd.int .i64)) W (some ⟨g, 0, none⟩) xs.length xs := by
  refine ⟨rfl, by omega, fun _ => ⟨_, rfl, fun j p hj => ?_⟩⟩
  obtain ⟨A, c, h1, h2, h3⟩ := ha.at j p hj
  refine ⟨[.slice A p.length c], rfl, ⟨A, c, rfl, h2, h3⟩, fun i u hu => ?_⟩
  cases i with
  | zero =>
    obtain rfl := Option.some.inj hu
    rw [add_at]
    show W.cell? ⟨g, 0 + (j * 1 + 0), none⟩ = _
    rw [Nat.zero_add, Nat.mul_one, Nat.add_zero]
    simp [World.cell?, h, hcs, h1]
  | succ i => simp at hu
theorem heap_alloc (W : World) (o : Obj) (k : Nat) : (W.alloc o).heap[k]? = if k = W.heap.size then some o else W.heap[k]? := by
  show (W.heap.push o)[k]? = _
  rw [Array.getElem?_push]
theorem size_alloc (W : World) (o : Obj) : (W.alloc o).heap.size = W.heap.size + 1 := by
  show (W.heap.push o).size = _
  rw [Array.size_push]
theorem N_row {base : Nat} {ok : Nat → Prop} {W : World} {v : Value} {xs : List (List Int)} (h : Kd.N (Kd.slice 3 (Kd.int .i64)) 30 W base ok v xs) (j : Nat) (hj : j < xs.length) :
    ∃ (g cap A c : _) , v = .slice (some ⟨g, 0, none⟩) xs.length cap ∧ W.cell? ⟨g, j, none⟩ = some (.slice A (xs.getD j []).length c) ∧ Kd.V (Kd.int .i64) 3 W base (fun k => ok k ∧ some k ≠ v.ownBlock) (.slice A (xs.getD j []).length c) (xs.getD j []) := by
  obtain ⟨A, c, rfl⟩ := Kd.N_slice h
  obtain ⟨h0, rows, hl, hR, hf⟩ := id h
  obtain ⟨g, cap, hv, _⟩ := Kd.R_form hR (by omega)
  rw [hv] at h
  obtain ⟨ce, hcl, hFK, hcc⟩ := Kd.N_get h ([] : List Int) (j : Int) (by omega) (by omega)
  rw [Int.toNat_natCast] at hFK
  obtain ⟨A1, c1, rfl, hl1, hF⟩ := Kd.FK_slice_open hFK
  have h3 := hcc 0 _ rfl
  have e3 : (Addr.add ⟨g, 0, none⟩ ((j : Int).toNat * (Kd.slice 3 (Kd.int .i64)).sz + 0)) = (⟨g, j, none⟩ : Addr) := by
    rw [Int.toNat_natCast, add_at]
    show (⟨g, 0 + (j * 1 + 0), none⟩ : Addr) = _
    rw [Nat.zero_add, Nat.mul_one, Nat.add_zero]
  rw [e3] at h3
  refine ⟨g, cap, A1, c1, by rw [hv, hl], h3, Kd.V_mk hl1 ?_⟩
  rw [hv]
  exact hF
end Go.Proofs.YtobdccgpbohpiaaGreatDoor
