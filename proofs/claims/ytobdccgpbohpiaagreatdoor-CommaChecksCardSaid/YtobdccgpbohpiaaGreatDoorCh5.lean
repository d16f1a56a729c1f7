/- Ch: a part of the proof. -/
import Derived.RowKit
set_option linter.unusedVariables false
set_option linter.unusedSimpArgs false
namespace Go.Proofs.YtobdccgpbohpiaaGreatDoor
def pcs (n : Nat) : List Int := if h : n = 0 then [] else ((n % 1000000000 : Nat) : Int) :: pcs (n / 1000000000)
termination_by n
decreasing_by omega
def decVal (l : List UInt8) : Nat := l.foldl (fun a c => 10 * a + (c.toNat - 48)) 0
def isDec (l : List UInt8) : Bool := l.all fun c => decide (48 ≤ c.toNat) && decide (c.toNat ≤ 57)
def chunk (bs : List UInt8) (e : Nat) : List UInt8 := (bs.take e).drop (e - 9)
def cutFrom (bs : List UInt8) (e : Nat) : List Int := if h : e = 0 then [] else (decVal (chunk bs e) : Int) :: cutFrom bs (e - 9)
termination_by e
decreasing_by omega
def trimL : List Int → List Int
  | [] => []
  | c :: t => match trimL t with
    | [] => if c = 0 then [] else [c]
    | d :: u => c :: d :: u
theorem foldl_dec (l : List UInt8) (a : Nat) : l.foldl (fun a c => 10 * a + (c.toNat - 48)) a = a * 10 ^ l.length + decVal l := by
  unfold decVal
  induction l generalizing a with
  | nil => simp
  | cons c t ih =>
    simp only [List.foldl_cons, List.length_cons]
    rw [ih, ih (10 * 0 + (c.toNat - 48))]
    rw [Nat.pow_succ]
    have : (10 * a + (c.toNat - 48)) * 10 ^ t.length = a * (10 ^ t.length * 10) + (c.toNat - 48) * 10 ^ t.length := by
      rw [Nat.add_mul, Nat.mul_comm 10 a, Nat.mul_assoc, Nat.mul_comm 10]
    rw [this, Nat.mul_zero, Nat.zero_add]
    omega
theorem decVal_append (a b : List UInt8) : decVal (a ++ b) = decVal a * 10 ^ b.length + decVal b := by
  rw [decVal, List.foldl_append, foldl_dec]; rfl
theorem decVal_snoc (a : List UInt8) (c : UInt8) : decVal (a ++ [c]) = 10 * decVal a + (c.toNat - 48) := by
  unfold decVal; rw [List.foldl_append]; rfl
theorem decVal_lt {l : List UInt8} (h : isDec l = true) : decVal l < 10 ^ l.length := by
  have key : ∀ (l : List UInt8) (r : List UInt8), l = r.reverse → isDec l = true → decVal l < 10 ^ l.length := by
    intro l r
    induction r generalizing l with
    | nil => rintro rfl _; simp [decVal]
    | cons c t ih =>
      rintro rfl h
      rw [List.reverse_cons] at h ⊢
      simp only [isDec, List.all_append, Bool.and_eq_true, List.all_cons, List.all_nil, decide_eq_true_eq, Bool.and_true] at h
      rw [decVal_snoc, List.length_append, List.length_singleton, Nat.pow_succ]
      have := ih t.reverse rfl (by unfold isDec; exact h.1)
      omega
  exact key l l.reverse (by simp) h
theorem isDec_sub {a b : List UInt8} (h : isDec b = true) (hs : ∀ x ∈ a, x ∈ b) : isDec a = true := by
  simp only [isDec, List.all_eq_true] at *
  exact fun x hx => h x (hs x hx)
theorem chunk_mem {bs : List UInt8} {e : Nat} {x : UInt8} (h : x ∈ chunk bs e) : x ∈ bs := List.mem_of_mem_take (List.mem_of_mem_drop h)
theorem chunk_length {bs : List UInt8} {e : Nat} (he : e ≤ bs.length) : (chunk bs e).length = e - (e - 9) := by
  unfold chunk
  rw [List.length_drop, List.length_take]; omega
theorem pcs_step (q c : Nat) (hc : c < 1000000000) (h : q ≠ 0 ∨ c ≠ 0) : pcs (q * 1000000000 + c) = (c : Int) :: pcs q := by
  rw [pcs, dif_neg (by omega)]
  congr 2
  · omega
  · omega
theorem trimL_cutFrom {bs : List UInt8} (hd : isDec bs = true) (e : Nat) (he : e ≤ bs.length) : trimL (cutFrom bs e) = pcs (decVal (bs.take e)) := by
  induction e using Nat.strongRecOn with
  | _ e ih =>
    by_cases h0 : e = 0
    · subst h0
      rw [cutFrom, dif_pos rfl, List.take_zero, pcs, dif_pos (by rfl)]; rfl
    · rw [cutFrom, dif_neg h0]
      have ih2 := ih (e - 9) (by omega) (by omega)
      have hsplit : bs.take e = bs.take (e - 9) ++ chunk bs e := by
        unfold chunk
        have := (List.take_append_drop (e - 9) (bs.take e)).symm
        rw [List.take_take, show min (e - 9) e = e - 9 by omega] at this
        exact this
      have hdc : isDec (chunk bs e) = true := isDec_sub hd (fun x hx => chunk_mem hx)
      have hlt := decVal_lt hdc
      have hcl := chunk_length he
      have hclt : decVal (chunk bs e) < 1000000000 := by
        refine Nat.lt_of_lt_of_le hlt ?_
        rw [hcl]
        exact Nat.le_trans (Nat.pow_le_pow_right (by decide) (show e - (e - 9) ≤ 9 by omega)) (by decide)
      have hv : decVal (bs.take e) = decVal (bs.take (e - 9)) * 1000000000 + decVal (chunk bs e) := by
        rw [hsplit, decVal_append, hcl]
        by_cases h9 : 9 ≤ e
        · rw [show e - (e - 9) = 9 by omega]
        · rw [show e - 9 = 0 by omega, List.take_zero]
          simp [decVal]
      rw [hv]
      generalize decVal (bs.take (e - 9)) = q at ih2
      generalize decVal (chunk bs e) = c at hclt
      by_cases hz : q = 0 ∧ c = 0
      · obtain ⟨rfl, rfl⟩ := hz
        have hp : pcs 0 = [] := by rw [pcs, dif_pos rfl]
        rw [hp] at ih2
        simp only [trimL, ih2]
        rw [Nat.zero_mul, Nat.zero_add, hp]; rfl
      · rw [pcs_step q c hclt (by omega)]
        simp only [trimL, ih2]
        by_cases hq : q = 0
        · subst hq
          have hp : pcs 0 = [] := by rw [pcs, dif_pos rfl]
          rw [hp]
          simp only
          rw [if_neg (by omega)]
        · have hp : pcs q = ((q % 1000000000 : Nat) : Int) :: pcs (q / 1000000000) := by conv => lhs; rw [pcs]; rw [dif_neg hq]
          rw [hp]
theorem trimL_snoc (l : List Int) (c : Int) : trimL (l ++ [c]) = if c = 0 then trimL l else l ++ [c] := by
  induction l with
  | nil =>
    show (if c = 0 then ([] : List Int) else [c]) = _
    rfl
  | cons x t ih =>
    simp only [List.cons_append, trimL, ih]
    by_cases hc : c = 0
    · simp only [if_pos hc]
    · simp only [if_neg hc]
      cases t <;> rfl
end Go.Proofs.YtobdccgpbohpiaaGreatDoor
