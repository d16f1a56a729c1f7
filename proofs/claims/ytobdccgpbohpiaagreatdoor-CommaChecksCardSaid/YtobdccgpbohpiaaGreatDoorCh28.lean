/- Ch: a part of the proof. -/
import Derived.Test.YtobdccgpbohpiaaGreatDoorCh25
set_option linter.unusedVariables false
set_option linter.unusedSimpArgs false
namespace Go.Proofs.YtobdccgpbohpiaaGreatDoor
open Go.RowKit Go.Shelf Go.Lib Go.Sort F Go.Proofs.YtobdccgpbohpiaaGreatDoorW.PrintWords Go.Proofs.YtobdccgpbohpiaaGreatDoorW.PrintLast Go.Proofs.YtobdccgpbohpiaaGreatDoorW.PrintMore
def cmpRow : List Int → List Int → Int
  | [], [] => 0
  | [], _ :: _ => -1
  | _ :: _, [] => 1
  | a :: x, b :: y => if a < b then -1 else if a > b then 1 else cmpRow x y
theorem cmpInt_f (a b : Int) : cmp_Compare_int.f a b = some (if a < b then -1 else if a > b then 1 else 0) := by
  unfold cmp_Compare_int.f cmp_isNaN_int.f
  have h1 : (a != a) = false := by simp
  have h2 : (b != b) = false := by simp
  rw [h1, h2]
  simp only [Option.bind_some]
  rw [if_neg (by decide), if_neg (by decide)]
  split
  · rfl
  · split <;> rfl
theorem cmpRow_loop (x y : List Int) (hb : x.length < 4611686018427387904) : ∀ (m i : Nat), i + m = x.length → i ≤ y.length → Ev (fun k => api_Row_int_88.l0 k x y x (x.length : Int) i) (cmpRow (x.drop i) (y.drop i)) := by
  intro m
  induction m with
  | zero =>
    intro i hi hy
    have : i = x.length := by omega
    subst this
    refine Ev.succ (fun k => by rw [api_Row_int_88.l0]) (Ev.neg (by omega) ?_)
    rw [List.drop_length]
    by_cases h : x.length < y.length
    · rw [List.drop_eq_getElem_cons h]
      exact Ev.pos (by omega) (Ev.pure _)
    · rw [List.drop_eq_nil_of_le (by omega)]
      exact Ev.neg (by omega) (Ev.pure _)
  | succ m ih =>
    intro i hi hy
    have hix : i < x.length := by omega
    refine Ev.succ (fun k => by rw [api_Row_int_88.l0]) (Ev.pos (by omega) (Ev.pos (by omega) (Ev.pos (by omega) ?_)))
    rw [List.drop_eq_getElem_cons hix]
    by_cases h : y.length ≤ i
    · rw [List.drop_eq_nil_of_le h]
      exact Ev.pos (by omega) (Ev.pure _)
    · have hiy : i < y.length := by omega
      have hw : wrap64 ((i : Int) + 1) = ((i + 1 : Nat) : Int) := by rw [wrap64_id (by omega)]; omega
      have h3 := ih (i + 1) (by omega) (by omega)
      have e1 : rd x (i : Int) = x[i] := by rw [rd_nat, List.getD_eq_getElem?_getD, List.getElem?_eq_getElem hix]; rfl
      have e2 : rd y (i : Int) = y[i] := by rw [rd_nat, List.getD_eq_getElem?_getD, List.getElem?_eq_getElem hiy]; rfl
      rw [hw, e1, e2, cmpInt_f, List.drop_eq_getElem_cons hiy]
      show Ev _ (if x[i] < y[i] then -1 else if x[i] > y[i] then 1 else cmpRow (x.drop (i + 1)) (y.drop (i + 1)))
      clear hw e1 e2
      generalize x[i] = a
      generalize y[i] = b
      refine Ev.neg (by omega) (Ev.pos (by omega) (Ev.bind (Ev.pure _) ?_))
      by_cases h5 : a < b
      · rw [if_pos h5, if_pos h5]; exact Ev.neg (by decide) (Ev.pure _)
      · rw [if_neg h5, if_neg h5]
        by_cases h6 : a > b
        · rw [if_pos h6, if_pos h6]; exact Ev.neg (by decide) (Ev.pure _)
        · rw [if_neg h6, if_neg h6]; exact Ev.pos rfl h3
theorem cmpRow_ev (x y : List Int) (hb : x.length < 4611686018427387904) : Ev (fun k => row_Compare.f k x y) (cmpRow x y) := by
  have := cmpRow_loop x y hb x.length 0 (by omega) (Nat.zero_le _)
  rw [List.drop_zero, List.drop_zero] at this
  unfold row_Compare.f api_Row_int_88.f
  exact Ev.bind this (Ev.pure _)
theorem cmpRow_self (x : List Int) : cmpRow x x = 0 := by
  induction x with
  | nil => rfl
  | cons a x ih => rw [cmpRow, if_neg (by omega), if_neg (by omega), ih]
theorem cmpRow_order : ∀ x y q : List Int, (cmpRow x y < 0 → cmpRow y q < 0 → cmpRow x q < 0) ∧ (¬ cmpRow x y < 0 → ¬ cmpRow y q < 0 → ¬ cmpRow x q < 0)
  | [], [], [] => by simp [cmpRow]
  | [], [], _ :: _ => by simp [cmpRow]
  | [], _ :: _, [] => by simp [cmpRow]
  | [], _ :: _, _ :: _ => by simp [cmpRow]
  | _ :: _, [], [] => by simp [cmpRow]
  | _ :: _, [], _ :: _ => by simp [cmpRow]
  | _ :: _, _ :: _, [] => by simp [cmpRow]
  | a :: x, b :: y, c :: q => by
    have ih := cmpRow_order x y q
    simp only [cmpRow]
    by_cases h1 : a < b <;> by_cases h2 : a > b <;> by_cases h3 : b < c <;> by_cases h4 : b > c <;> by_cases h5 : a < c <;> by_cases h6 : a > c <;>
      simp only [h1, h2, h3, h4, h5, h6, if_true, if_false] <;> first | omega | (constructor <;> omega) | exact ih
def fitRows (l : List (List Int)) : Bool := decide (l.length < 4611686018427387904) && l.all fun x => decide (x.length < 4611686018427387904)
def g_sort_Row.f (l : List (List Int)) : Option (List (List Int)) := if fitRows l = true then some (sortL cmpRow [] l) else none
theorem g_sort_Row.calls {base : Nat} {ok : Nat → Prop} {W : World} {A : Option Addr} {n c : Nat} {l r : List (List Int)} (h : Kd.N (Kd.slice 3 (Kd.int .i64)) 30 W base ok (.slice A n c) l) (hf : g_sort_Row.f l = some r) :
    Calls Tryz.prog 51 #[.slice A n c, .func (.func 52) #[] #[]] W fun e w' => e = .returned (.tuple #[]) ∧ Kd.N (Kd.slice 3 (Kd.int .i64)) 30 w' base ok (.slice A n c) r ∧ RowKit.Below base W w' ∧ W.grownBy w' (Value.slice A n c).ownBlock := by
  unfold g_sort_Row.f at hf
  split at hf
  · rename_i hfit
    obtain rfl := Option.some.inj hf
    simp only [fitRows, Bool.and_eq_true, decide_eq_true_eq, List.all_eq_true] at hfit
    obtain ⟨hlen, hall⟩ := hfit
    have eg : ∀ args w, (callFunc 52 args).run Tryz.prog w = .ok (.enter 52 args) w := enters_of Tryz.func52 (by kernel_rfl) rfl
    have := N_sort1 (d := Kd.slice 3 (Kd.int .i64)) (P := Tryz.prog) Tryz.sortRow Tryz.sortRow0 rfl cmpRow [] 52 eg h hlen (fun x _ y _ q _ => ⟨by rw [cmpRow_self]; omega, cmpRow_order x y q⟩) (fun W' x y cx cy hb hs hx hy fx fy => by
      obtain ⟨A1, c1, e1, l1, g1⟩ := Kd.FK_slice_open (Kd.FK_step fx hs)
      obtain ⟨A2, c2, e2, l2, g2⟩ := Kd.FK_slice_open (Kd.FK_step fy hs)
      injection e1 with e1 _
      injection e2 with e2 _
      subst e1 e2
      obtain ⟨k, hk⟩ := cmpRow_ev x y (hall x hx)
      exact (row_Compare.calls k A1 c1 x A2 c2 y _ W' (Kd.F_now g1) l1 (Kd.F_now g2) l2 (hk k (Nat.le_refl _))).mono fun _ _ h => ⟨h.1, (Gro.of0 h.2).out⟩)
    exact this
  · cases hf
end Go.Proofs.YtobdccgpbohpiaaGreatDoor
