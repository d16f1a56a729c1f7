/- Ch: a part of the proof. -/
import Derived.Test.YtobdccgpbohpiaaGreatDoorCh20
import Derived.Test.YtobdccgpbohpiaaGreatDoorCh21
set_option linter.unusedVariables false
set_option linter.unusedSimpArgs false
namespace Go.Proofs.YtobdccgpbohpiaaGreatDoor
open Go.RowKit F Go.Proofs.YtobdccgpbohpiaaGreatDoorW.PrintWords Go.Proofs.YtobdccgpbohpiaaGreatDoorW.PrintLast Go.Proofs.YtobdccgpbohpiaaGreatDoorW.PrintMore
def zrow (x y : List Int) (k : Int) : List Int := (List.range y.length).map fun (i : Nat) => wrap64 (rd y i + wrap64 (k * rd x i))
theorem zrow_length (x y : List Int) (k : Int) : (zrow x y k).length = y.length := by unfold zrow; rw [List.length_map, List.length_range]
def ks (m : Nat) : List Int := (List.range (2 * m + 1)).map fun (j : Nat) => (j : Int) - m
def stepC (m : Nat) (all : List (List Int)) (x : List Int) : List (List Int) := all.flatMap fun y => (ks m).map (zrow x y)
def allC (m n : Nat) (l : List (List Int)) : List (List Int) := l.foldl (stepC m) [List.replicate n 0]
def cntOk (m : Int) : Nat → Int → Bool
  | 0, _ => true
  | n + 1, c => if m > 10000 ∨ c * (2 * m + 1) > 10000 then false else cntOk m n (c * (2 * m + 1))
def filtC (k : Nat) (p : List Int) : List (List Int) → Option (Option (List (List Int)))
  | [] => some (some [])
  | x :: t => (monzo_Sign.f k p x).bind fun s => if s.2 = 0 then (filtC k p t).map fun o => o.map fun r => if s.1 > 0 then x :: r else r else some none
theorem ks_length (m : Nat) : (ks m).length = 2 * m + 1 := by unfold ks; rw [List.length_map, List.length_range]
theorem stepC_length (m : Nat) (all : List (List Int)) (x : List Int) : (stepC m all x).length = all.length * (2 * m + 1) := by
  unfold stepC
  induction all with
  | nil => simp
  | cons y t ih => rw [List.flatMap_cons, List.length_append, ih, List.length_map, ks_length, List.length_cons, Nat.add_mul]; omega
theorem stepC_rows (m n : Nat) {all : List (List Int)} {x : List Int} (h : ∀ y ∈ all, y.length = n) : ∀ z ∈ stepC m all x, z.length = n := by
  intro z hz
  unfold stepC at hz
  obtain ⟨y, hy, hz⟩ := List.mem_flatMap.1 hz
  obtain ⟨k, _, rfl⟩ := List.mem_map.1 hz
  rw [zrow_length]; exact h y hy
theorem allC_take (m n : Nat) (l : List (List Int)) (i : Nat) (h : i < l.length) : allC m n (l.take (i + 1)) = stepC m (allC m n (l.take i)) l[i] := by
  unfold allC
  rw [List.take_succ_eq_append_getElem h, List.foldl_append]; rfl
theorem allC_rows (m n : Nat) (l : List (List Int)) : ∀ i, i ≤ l.length → ∀ y ∈ allC m n (l.take i), y.length = n
  | 0, _, y, hy => by
    rw [List.take_zero] at hy
    rw [List.mem_singleton.1 hy, List.length_replicate]
  | i + 1, h, y, hy => by
    rw [allC_take m n l i (by omega)] at hy
    exact stepC_rows m n (allC_rows m n l i (by omega)) y hy
theorem allC_length (m n : Nat) (l : List (List Int)) : ∀ i, i ≤ l.length → (allC m n (l.take i)).length = (2 * m + 1) ^ i
  | 0, _ => rfl
  | i + 1, h => by rw [allC_take m n l i (by omega), stepC_length, allC_length m n l i (by omega), Nat.pow_succ]
theorem cnt_pow (m : Nat) : ∀ (n c : Nat), cntOk (m : Int) n (c : Int) = true → c ≤ 10000 → ∀ i, i ≤ n → c * (2 * m + 1) ^ i ≤ 10000
  | _, c, _, hc, 0, _ => by rw [Nat.pow_zero, Nat.mul_one]; exact hc
  | 0, c, _, hc, i + 1, h => by omega
  | n + 1, c, hk, hc, i + 1, h => by
    rw [cntOk] at hk
    split at hk
    · cases hk
    · rename_i hn
      have e : (c : Int) * (2 * (m : Int) + 1) = ((c * (2 * m + 1) : Nat) : Int) := by push_cast; rfl
      rw [e] at hk hn
      have := cnt_pow m n (c * (2 * m + 1)) hk (by omega) i (by omega)
      rw [Nat.pow_succ, Nat.mul_comm ((2 * m + 1) ^ i), ← Nat.mul_assoc]; exact this
theorem cnt_all (m n : Nat) (l : List (List Int)) (h : cntOk (m : Int) l.length 1 = true) : ∀ i, i ≤ l.length → (allC m n (l.take i)).length ≤ 10000 := fun i hi => by
  have := cnt_pow m l.length 1 h (by omega) i hi
  rw [Nat.one_mul] at this
  rw [allC_length m n l i hi]; exact this
def partC (m : Nat) (all : List (List Int)) (x : List Int) (j t : Nat) : List (List Int) := (stepC m (all.take j) x) ++ ((ks m).take t).map (zrow x (all.getD j []))
theorem partC_zero (m : Nat) (all : List (List Int)) (x : List Int) : partC m all x 0 0 = [] := by unfold partC stepC; simp
theorem partC_next (m : Nat) (all : List (List Int)) (x : List Int) (j : Nat) (hj : j < all.length) : partC m all x j (2 * m + 1) = partC m all x (j + 1) 0 := by
  unfold partC
  have h1 : (ks m).take (2 * m + 1) = ks m := List.take_of_length_le (by rw [ks_length]; exact Nat.le_refl _)
  rw [h1, List.take_zero, List.map_nil, List.append_nil, List.take_succ_eq_append_getElem hj]
  unfold stepC
  rw [List.flatMap_append, List.flatMap_cons, List.flatMap_nil, List.append_nil, List.getD_eq_getElem?_getD, List.getElem?_eq_getElem hj]; rfl
theorem partC_snoc (m : Nat) (all : List (List Int)) (x : List Int) (j t : Nat) (ht : t < 2 * m + 1) : partC m all x j (t + 1) = partC m all x j t ++ [zrow x (all.getD j []) ((t : Int) - m)] := by
  unfold partC
  have h1 : t < (ks m).length := by rw [ks_length]; exact ht
  rw [List.take_succ_eq_append_getElem h1, List.map_append, ← List.append_assoc]
  congr 1
  have h2 : (ks m)[t] = (t : Int) - m := by simp [ks]
  rw [h2]; rfl
theorem partC_all (m : Nat) (all : List (List Int)) (x : List Int) : partC m all x all.length 0 = stepC m all x := by
  unfold partC
  rw [List.take_length, List.take_zero, List.map_nil, List.append_nil]
theorem partC_length (m : Nat) (all : List (List Int)) (x : List Int) (j t : Nat) (hj : j < all.length) (ht : t ≤ 2 * m + 1) : (partC m all x j t).length ≤ all.length * (2 * m + 1) := by
  unfold partC
  rw [List.length_append, stepC_length, List.length_map, List.length_take, List.length_take, ks_length]
  have h1 : (j + 1) * (2 * m + 1) ≤ all.length * (2 * m + 1) := Nat.mul_le_mul_right _ hj
  rw [Nat.add_mul, Nat.one_mul] at h1
  have h2 : min j all.length = j := Nat.min_eq_left (by omega)
  rw [h2]
  omega
end Go.Proofs.YtobdccgpbohpiaaGreatDoor
