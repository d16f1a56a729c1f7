/- Re: a part of the proof. -/
import Derived.Test.YtobdccgpbohpiaaGreatDoorRe31
import Derived.Test.YtobdccgpbohpiaaGreatDoorRe33
set_option linter.unusedVariables false
set_option linter.unusedSimpArgs false
namespace Go.Proofs.YtobdccgpbohpiaaGreatDoor
open Go.RowKit Go.Sort F Go.Proofs.YtobdccgpbohpiaaGreatDoorW.PrintWords Go.Proofs.YtobdccgpbohpiaaGreatDoorW.PrintLast Go.Proofs.YtobdccgpbohpiaaGreatDoorW.PrintMore
theorem compare_ev {p : List Nat} (hp : p ∈ PL) {x y : List Int} (hx : Few p x) (hy : Few p y) : Ev (fun k => monzo_Compare.f k (ints p) x y) (cmpN (numN p x * denN p y) (numN p y * denN p x), 0) := by
  have hdx := side_digits hp hx
  have hdy := side_digits hp hy
  have hl := PL_length hp
  have m1 := digits_mul (numN p x) (denN p y)
  have m2 := digits_mul (numN p y) (denN p x)
  have hc := checkAll_ev hp [x, y] (by simp) (fun z hz => by
    rcases List.mem_cons.1 hz with rfl | hz
    · rw [hx.len]; omega
    · rw [List.mem_singleton.1 hz, hy.len]; omega)
  rw [rowsErr, if_pos hx.len, hx.big, if_neg (by decide), rowsErr, if_pos hy.len, hy.big, if_neg (by decide), rowsErr] at hc
  unfold monzo_Compare.f
  exact Ev.bind hc (Ev.pos rfl (Ev.bind (sides_ev p x (hx.fits hp)).2 (Ev.bind (sides_ev p y (hy.fits hp)).2 (Ev.bind (dMul_ev _ _ (by omega)) (Ev.bind (dMul_ev _ _ (by omega)) (Ev.bind (Ev.const (dCmp_D _ _ (by omega) (by omega))) (Ev.pure _)))))))
theorem cmpN_neg (a b : Nat) : cmpN a b < 0 ↔ a < b := by
  unfold cmpN
  split
  · rename_i h; exact ⟨fun _ => h, fun _ => by decide⟩
  · split
    · rename_i h h2; exact ⟨fun h3 => absurd h3 (by decide), fun h3 => absurd h3 h⟩
    · rename_i h h2; exact ⟨fun h3 => absurd h3 (by decide), fun h3 => absurd h3 h⟩
section
variable {α β : Type}
def better (lt : α → α → Bool) (out : List α) (x : α) : Bool := match out.getLast? with
  | none => true
  | some y => lt x y
def recs (lt : α → α → Bool) : List α → List α → List α
  | out, [] => out
  | out, x :: t => if better lt out x = true then recs lt (out ++ [x]) t else recs lt out t
theorem better_map (f : α → β) (lt : β → β → Bool) (out : List α) (x : α) : better lt (out.map f) (f x) = better (fun a b => lt (f a) (f b)) out x := by
  unfold better
  rw [List.getLast?_map]
  cases out.getLast? <;> rfl
theorem recs_map (f : α → β) (lt : β → β → Bool) : ∀ (l out : List α), recs lt (out.map f) (l.map f) = (recs (fun a b => lt (f a) (f b)) out l).map f
  | [], out => rfl
  | x :: t, out => by
    rw [List.map_cons, recs, recs, better_map]
    split
    · rw [← recs_map f lt t (out ++ [x]), List.map_append]; rfl
    · exact recs_map f lt t out
theorem better_congr {lt lt' : α → α → Bool} {out : List α} {x : α} (h : ∀ y ∈ out, lt x y = lt' x y) : better lt out x = better lt' out x := by
  unfold better
  cases hl : out.getLast? with
  | none => rfl
  | some y => exact h y (List.mem_of_getLast? hl)
theorem recs_congr {lt lt' : α → α → Bool} : ∀ (l out : List α), (∀ a ∈ l, ∀ b ∈ out ++ l, lt a b = lt' a b) → recs lt out l = recs lt' out l
  | [], out, _ => rfl
  | x :: t, out, h => by
    rw [recs, recs, better_congr (lt' := lt') (fun y hy => h x List.mem_cons_self y (List.mem_append_left _ hy))]
    rw [recs_congr t (out ++ [x]) (fun a ha b hb => h a (List.mem_cons_of_mem _ ha) b (by simpa [List.append_assoc] using hb)), recs_congr t out (fun a ha b hb => h a (List.mem_cons_of_mem _ ha) b (by
      rcases List.mem_append.1 hb with hb | hb
      · exact List.mem_append_left _ hb
      · exact List.mem_append_right _ (List.mem_cons_of_mem _ hb)))]
theorem recs_mem (lt : α → α → Bool) : ∀ (l out : List α), ∀ a ∈ recs lt out l, a ∈ out ++ l
  | [], out, a, h => by rw [recs] at h; simpa using h
  | x :: t, out, a, h => by
    rw [recs] at h
    split at h
    · have := recs_mem lt t (out ++ [x]) a h
      simpa [List.append_assoc] using this
    · have := recs_mem lt t out a h
      rcases List.mem_append.1 this with h | h
      · exact List.mem_append_left _ h
      · exact List.mem_append_right _ (List.mem_cons_of_mem _ h)
theorem recs_length (lt : α → α → Bool) : ∀ (l out : List α), out.length ≤ (recs lt out l).length ∧ (recs lt out l).length ≤ out.length + l.length
  | [], out => by simp [recs]
  | x :: t, out => by
    have h1 := recs_length lt t (out ++ [x])
    have h2 := recs_length lt t out
    rw [List.length_append, List.length_singleton] at h1
    rw [recs, List.length_cons]
    split <;> omega
def lstG (lt : α → α → Bool) (z : α) (L : List α) : Nat → Option Nat
  | 0 => none
  | i + 1 => match lstG lt z L i with
    | none => some i
    | some j => if lt (L.getD i z) (L.getD j z) = true then some i else some j
def recG (lt : α → α → Bool) (z : α) (L : List α) : Nat → List α
  | 0 => []
  | i + 1 => if better lt (recG lt z L i) (L.getD i z) = true then recG lt z L i ++ [L.getD i z] else recG lt z L i
theorem recG_last (lt : α → α → Bool) (z : α) (L : List α) : ∀ i, (recG lt z L i).getLast? = (lstG lt z L i).map fun j => L.getD j z
  | 0 => rfl
  | i + 1 => by
    have ih := recG_last lt z L i
    rw [recG, lstG]
    unfold better
    cases hl : lstG lt z L i with
    | none =>
      rw [hl] at ih
      rw [ih]
      simp
    | some j =>
      rw [hl] at ih
      rw [ih]
      simp only [Option.map_some]
      split
      · simp
      · rw [ih]
theorem recG_better (lt : α → α → Bool) (z : α) (L : List α) (i : Nat) : better lt (recG lt z L i) (L.getD i z) = match lstG lt z L i with
    | none => true
    | some j => lt (L.getD i z) (L.getD j z) := by
  unfold better
  rw [recG_last]
  cases lstG lt z L i <;> rfl
theorem lstG_lt (lt : α → α → Bool) (z : α) (L : List α) : ∀ i j, lstG lt z L i = some j → j < i
  | 0, j, h => by cases h
  | i + 1, j, h => by
    rw [lstG] at h
    cases hl : lstG lt z L i with
    | none => rw [hl] at h; cases h; omega
    | some k =>
      have := lstG_lt lt z L i k hl
      rw [hl] at h
      simp only at h
      split at h <;> cases h <;> omega
theorem recG_recs (lt : α → α → Bool) (z : α) (L : List α) : ∀ i, i ≤ L.length → recs lt (recG lt z L i) (L.drop i) = recs lt [] L
  | 0, _ => rfl
  | i + 1, h => by
    rw [← recG_recs lt z L i (by omega), List.drop_eq_getElem_cons (show i < L.length by omega), recs, recG]
    have e : L.getD i z = L[i] := by rw [List.getD_eq_getElem?_getD, List.getElem?_eq_getElem (show i < L.length by omega)]; rfl
    rw [e]
    split <;> rfl
theorem recG_all (lt : α → α → Bool) (z : α) (L : List α) : recG lt z L L.length = recs lt [] L := by
  rw [← recG_recs lt z L L.length (Nat.le_refl _), List.drop_length, recs]
theorem recG_length (lt : α → α → Bool) (z : α) (L : List α) : ∀ i, (recG lt z L i).length ≤ i
  | 0 => Nat.le_refl _
  | i + 1 => by
    have := recG_length lt z L i
    rw [recG]
    split
    · rw [List.length_append, List.length_singleton]; omega
    · omega
end
def ltFb (p : List Nat) (r s : List Int) : Bool := decide (numN p r * denN p s < numN p s * denN p r)
theorem records_loop {p : List Nat} (hp : p ∈ PL) (l : List (List Int)) (hf : ∀ r ∈ l, Few p r) (hl : l.length ≤ 20000) (H : Int) (x : List Int) (e : Int) : ∀ (m i : Nat) (out : List (List Int)), i + m = l.length → out.length ≤ i → (∀ r ∈ out, Few p r) →
    Ev (fun k => comma_Records.l0 k e out l (l.length : Int) (i : Int) (ints p) H x) (recs (ltFb p) out (l.drop i), e) := by
  intro m
  induction m with
  | zero =>
    intro i out hi ho hfo
    rw [List.drop_eq_nil_of_le (by omega), recs]
    exact Ev.succ (fun k => by rw [comma_Records.l0]) (Ev.neg (by omega) (Ev.pure _))
  | succ m ih =>
    intro i out hi ho hfo
    have hil : i < l.length := by omega
    rw [List.drop_eq_getElem_cons hil, recs]
    have hx := hf _ (List.getElem_mem hil)
    have hkeep := ih (i + 1) (out ++ [l[i]]) (by omega) (by rw [List.length_append, List.length_singleton]; omega) (fun r hr => by
      rcases List.mem_append.1 hr with h | h
      · exact hfo r h
      · rw [List.mem_singleton.1 h]; exact hx)
    have hpass := ih (i + 1) out (by omega) (by omega) hfo
    rw [← w64n (i := i) (by omega)] at hkeep hpass
    rw [← rdL1_at hil] at hx hkeep ⊢
    refine Ev.succ (fun k => by rw [comma_Records.l0]) (Ev.pos (by omega) (Ev.pos (by omega) (Ev.pos (by omega) ?_)))
    by_cases h0 : out.length = 0
    · have ho0 : out = [] := List.eq_nil_of_length_eq_zero h0
      have hb : better (ltFb p) out (rd_L1 l (i : Int)) = true := by rw [ho0]; rfl
      rw [if_pos hb]
      exact Ev.neg (by omega) (Ev.pos (by omega) hkeep)
    · have e1 : wrap64 ((out.length : Int) - 1) = ((out.length - 1 : Nat) : Int) := by rw [wrap64_id (by omega)]; omega
      have hlt : out.length - 1 < out.length := by omega
      have hlast : out.getLast? = some (rd_L1 out ((out.length - 1 : Nat) : Int)) := by
        rw [rdL1_at hlt, List.getLast?_eq_getElem?, List.getElem?_eq_getElem hlt]
      have hy : Few p (rd_L1 out ((out.length - 1 : Nat) : Int)) := hfo _ (List.mem_of_getLast? hlast)
      have hb : better (ltFb p) out (rd_L1 l (i : Int)) = ltFb p (rd_L1 l (i : Int)) (rd_L1 out ((out.length - 1 : Nat) : Int)) := by
        unfold better; rw [hlast]
      rw [hb, e1]
      refine Ev.pos (by omega) (Ev.pos (by omega) (Ev.pos (by omega) (Ev.bind (compare_ev hp hx hy) ?_)))
      have hc := cmpN_neg (numN p (rd_L1 l (i : Int)) * denN p (rd_L1 out ((out.length - 1 : Nat) : Int))) (numN p (rd_L1 out ((out.length - 1 : Nat) : Int)) * denN p (rd_L1 l (i : Int)))
      unfold ltFb
      by_cases hlt2 : numN p (rd_L1 l (i : Int)) * denN p (rd_L1 out ((out.length - 1 : Nat) : Int)) < numN p (rd_L1 out ((out.length - 1 : Nat) : Int)) * denN p (rd_L1 l (i : Int))
      · rw [if_pos (decide_eq_true hlt2)]
        exact Ev.neg (by have := hc.2 hlt2; omega) (Ev.pos (by omega) hkeep)
      · rw [if_neg (by simpa using hlt2)]
        exact Ev.pos (by have := mt hc.1 hlt2; omega) hpass
theorem records_ev {p : List Nat} (hp : p ∈ PL) {x : List Int} (h : Few p x) {H : Nat} (h1 : 1 ≤ H) (h2 : H ≤ 130) (hg : denN p x < numN p x) :
    Ev (fun k => comma_Records.f k (ints p) (H : Int) x) (recs (ltFb p) [] (spec p (numN p x) (denN p x) H), 0) := by
  unfold comma_Records.f
  refine Ev.bind (list_ev hp h h1 h2 hg) ?_
  have := records_loop hp (spec p (numN p x) (denN p x) H) (fun r hr => (spec_few hp h2 r hr).1) (spec_length hp h2) (H : Int) x 0 (spec p (numN p x) (denN p x) H).length 0 [] (by omega) (by simp) (fun r hr => by cases hr)
  rw [List.drop_zero] at this
  exact this
theorem law_recs {p : List Nat} (hp : p ∈ PL) {N De H : Nat} (h : H ≤ 130) : (recs lessP [] (law p N De H)).map Prod.fst = recs (ltFb p) [] (spec p N De H) := by
  rw [← law_spec hp H h]
  have := recs_map (Prod.fst (α := List Int) (β := S47)) (ltFb p) (law p N De H) []
  rw [List.map_nil] at this
  rw [this]
  congr 1
  refine recs_congr _ _ fun a ha b hb => ?_
  rw [List.nil_append] at hb
  have ia := (law_isz hp H h a ha).1
  have ib := (law_isz hp H h b hb).1
  have hiff := lessP_nat ia ib
  unfold ltFb
  rw [ia.num, ia.den, ib.num, ib.den]
  by_cases hc : a.2.f0.toNat * b.2.f1.toNat < b.2.f0.toNat * a.2.f1.toNat
  · rw [decide_eq_true hc]; exact hiff.2 hc
  · rw [decide_eq_false hc]
    cases h3 : lessP a b with
    | false => rfl
    | true => exact absurd (hiff.1 h3) hc
end Go.Proofs.YtobdccgpbohpiaaGreatDoor
