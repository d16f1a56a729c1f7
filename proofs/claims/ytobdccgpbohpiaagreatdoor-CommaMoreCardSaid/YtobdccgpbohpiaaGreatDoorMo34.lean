/- Mo: a part of the proof. -/
import Derived.Test.YtobdccgpbohpiaaGreatDoorMo30
import Derived.Test.YtobdccgpbohpiaaGreatDoorMo32
set_option linter.unusedVariables false
set_option linter.unusedSimpArgs false
namespace Go.Proofs.YtobdccgpbohpiaaGreatDoor
open Go.RowKit Go.Sort F Go.Proofs.YtobdccgpbohpiaaGreatDoorW.PrintWords Go.Proofs.YtobdccgpbohpiaaGreatDoorW.PrintLast Go.Proofs.YtobdccgpbohpiaaGreatDoorW.PrintMore
theorem compare_ev {p : List Nat} (hp : p ∈ PL) {x y : List Int} (hx : Few p x) (hy : Few p y) : Ev (fun k => monzo_Compare.f k (ints p) x y) (cmpN (numN p x * denN p y) (numN p y * denN p x), 0) := by
  have hdx := side_digits hp hx
  have hdy := side_digits hp hy
  have hl := PL_length hp
  have m1 := digits_mul (numN p x) (denN p y)
  have m2 := digits_mul (numN p y) (denN p x)
  have hc := checkAll_ev hp [x, y] (by simp) (fun z hz => by
    rcases List.mem_cons.1 hz with rfl | hz
    · rw [hx.len]; omega
    · rw [List.mem_singleton.1 hz, hy.len]; omega)
  rw [rowsErr, if_pos hx.len, hx.big, if_neg (by decide), rowsErr, if_pos hy.len, hy.big, if_neg (by decide), rowsErr] at hc
  unfold monzo_Compare.f
  exact Ev.bind hc (Ev.pos rfl (Ev.bind (sides_ev p x (hx.fits hp)).2 (Ev.bind (sides_ev p y (hy.fits hp)).2 (Ev.bind (dMul_ev _ _ (by omega)) (Ev.bind (dMul_ev _ _ (by omega)) (Ev.bind (Ev.const (dCmp_D _ _ (by omega) (by omega))) (Ev.pure _)))))))
theorem cmpN_neg (a b : Nat) : cmpN a b < 0 ↔ a < b := by
  unfold cmpN
  split
  · rename_i h; exact ⟨fun _ => h, fun _ => by decide⟩
  · split
    · rename_i h h2; exact ⟨fun h3 => absurd h3 (by decide), fun h3 => absurd h3 h⟩
    · rename_i h h2; exact ⟨fun h3 => absurd h3 (by decide), fun h3 => absurd h3 h⟩
section
variable {α β : Type}
def better (lt : α → α → Bool) (out : List α) (x : α) : Bool := match out.getLast? with
  | none => true
  | some y => lt x y
def recs (lt : α → α → Bool) : List α → List α → List α
  | out, [] => out
  | out, x :: t => if better lt out x = true then recs lt (out ++ [x]) t else recs lt out t
theorem recs_mem (lt : α → α → Bool) : ∀ (l out : List α), ∀ a ∈ recs lt out l, a ∈ out ++ l
  | [], out, a, h => by rw [recs] at h; simpa using h
  | x :: t, out, a, h => by
    rw [recs] at h
    split at h
    · have := recs_mem lt t (out ++ [x]) a h
      simpa [List.append_assoc] using this
    · have := recs_mem lt t out a h
      rcases List.mem_append.1 this with h | h
      · exact List.mem_append_left _ h
      · exact List.mem_append_right _ (List.mem_cons_of_mem _ h)
theorem recs_length (lt : α → α → Bool) : ∀ (l out : List α), out.length ≤ (recs lt out l).length ∧ (recs lt out l).length ≤ out.length + l.length
  | [], out => by simp [recs]
  | x :: t, out => by
    have h1 := recs_length lt t (out ++ [x])
    have h2 := recs_length lt t out
    rw [List.length_append, List.length_singleton] at h1
    rw [recs, List.length_cons]
    split <;> omega
theorem recs_head (lt : α → α → Bool) : ∀ (l out : List α) (x : α), out.head? = some x → (recs lt out l).head? = some x
  | [], out, x, h => h
  | y :: t, out, x, h => by
    rw [recs]
    split
    · exact recs_head lt t (out ++ [y]) x (by cases out with
        | nil => cases h
        | cons a r => exact h)
    · exact recs_head lt t out x h
theorem recs_last (lt : α → α → Bool) (S : α → Prop) (hnt : ∀ a b c, S a → S b → S c → lt a b = false → lt b c = false → lt a c = false) (has : ∀ a b, S a → S b → lt a b = true → lt b a = false) : ∀ (l out : List α) (z : α), (∀ a ∈ out ++ l, S a) → (∀ a ∈ out, ∀ y, out.getLast? = some y → lt a y = false) → (recs lt out l).getLast? = some z → ∀ a ∈ out ++ l, lt a z = false
  | [], out, z, hS, hm, hz, a, ha => hm a (by simpa using ha) z hz
  | x :: t, out, z, hS, hm, hz, a, ha => by
    have hir : ∀ a, S a → lt a a = false := fun a h => by
      cases h2 : lt a a with
      | false => rfl
      | true => exact absurd (has a a h h h2) (by rw [h2]; decide)
    have hSx := hS x (List.mem_append_right _ List.mem_cons_self)
    rw [recs] at hz
    by_cases hb : better lt out x = true
    · rw [if_pos hb] at hz
      refine recs_last lt S hnt has t (out ++ [x]) z (fun a ha => hS a (by simpa [List.append_assoc] using ha)) ?_ hz a (by simpa [List.append_assoc] using ha)
      intro b hb' y hy
      rw [List.getLast?_append] at hy
      obtain rfl : x = y := by simpa using hy
      rcases List.mem_append.1 hb' with h | h
      · cases hl : out.getLast? with
        | none => rw [List.getLast?_eq_none_iff] at hl; rw [hl] at h; cases h
        | some y =>
          unfold better at hb
          rw [hl] at hb
          have hSy := hS y (List.mem_append_left _ (List.mem_of_getLast? hl))
          exact hnt b y x (hS b (List.mem_append_left _ h)) hSy hSx (hm b h y hl) (has x y hSx hSy hb)
      · rw [List.mem_singleton.1 h]; exact hir x hSx
    · rw [if_neg hb] at hz
      have hS2 : ∀ a ∈ out ++ t, S a := fun a ha => hS a (by
        rcases List.mem_append.1 ha with h | h
        · exact List.mem_append_left _ h
        · exact List.mem_append_right _ (List.mem_cons_of_mem _ h))
      cases hl : out.getLast? with
      | none => unfold better at hb; rw [hl] at hb; exact absurd rfl hb
      | some y =>
        by_cases hax : a ∈ out ++ t
        · exact recs_last lt S hnt has t out z hS2 hm hz a hax
        · have hax2 : a = x := by
            rcases List.mem_append.1 ha with h | h
            · exact absurd (List.mem_append_left _ h) hax
            · rcases List.mem_cons.1 h with h | h
              · exact h
              · exact absurd (List.mem_append_right _ h) hax
          subst hax2
          have hyo := List.mem_of_getLast? hl
          have hyz := recs_last lt S hnt has t out z hS2 hm hz y (List.mem_append_left _ hyo)
          have hzm := recs_mem lt t out z (List.mem_of_getLast? hz)
          unfold better at hb
          rw [hl] at hb
          exact hnt a y z hSx (hS2 y (List.mem_append_left _ hyo)) (hS2 z hzm) (by simpa using hb) hyz
end
def ltFb (p : List Nat) (r s : List Int) : Bool := decide (numN p r * denN p s < numN p s * denN p r)
theorem ltFb_order {p : List Nat} : (∀ a b c : List Int, (0 < denN p a ∧ 0 < denN p b ∧ 0 < denN p c) → ltFb p a b = false → ltFb p b c = false → ltFb p a c = false) ∧ ∀ a b : List Int, ltFb p a b = true → ltFb p b a = false := by
  constructor
  · intro a b c ⟨h1, h2, h3⟩ hab hbc
    unfold ltFb at *
    have e1 := of_decide_eq_false hab
    have e2 := of_decide_eq_false hbc
    refine decide_eq_false fun h => ?_
    generalize numN p a = na at *
    generalize numN p b = nb at *
    generalize numN p c = nc at *
    generalize denN p a = da at *
    generalize denN p b = db at *
    generalize denN p c = dc at *
    have f1 : nb * da ≤ na * db := by omega
    have f2 : nc * db ≤ nb * dc := by omega
    have g1 : nb * da * dc ≤ na * db * dc := Nat.mul_le_mul_right _ f1
    have g2 : nc * db * da ≤ nb * dc * da := Nat.mul_le_mul_right _ f2
    have g3 : na * dc * db < nc * da * db := Nat.mul_lt_mul_of_pos_right h h2
    have k1 : nb * da * dc = nb * dc * da := by rw [Nat.mul_assoc, Nat.mul_comm da, ← Nat.mul_assoc]
    have k2 : na * db * dc = na * dc * db := by rw [Nat.mul_assoc, Nat.mul_comm db, ← Nat.mul_assoc]
    have k3 : nc * db * da = nc * da * db := by rw [Nat.mul_assoc, Nat.mul_comm db, ← Nat.mul_assoc]
    omega
  · intro a b h
    unfold ltFb at *
    have := of_decide_eq_true h
    exact decide_eq_false (by omega)
theorem records_loop {p : List Nat} (hp : p ∈ PL) (l : List (List Int)) (hf : ∀ r ∈ l, Few p r) (hl : l.length ≤ 20000) (H : Int) (x : List Int) (e : Int) : ∀ (m i : Nat) (out : List (List Int)), i + m = l.length → out.length ≤ i → (∀ r ∈ out, Few p r) →
    Ev (fun k => comma_Records.l0 k e out l (l.length : Int) (i : Int) (ints p) H x) (recs (ltFb p) out (l.drop i), e) := by
  intro m
  induction m with
  | zero =>
    intro i out hi ho hfo
    rw [List.drop_eq_nil_of_le (by omega), recs]
    exact Ev.succ (fun k => by rw [comma_Records.l0]) (Ev.neg (by omega) (Ev.pure _))
  | succ m ih =>
    intro i out hi ho hfo
    have hil : i < l.length := by omega
    rw [List.drop_eq_getElem_cons hil, recs]
    have hx := hf _ (List.getElem_mem hil)
    have hkeep := ih (i + 1) (out ++ [l[i]]) (by omega) (by rw [List.length_append, List.length_singleton]; omega) (fun r hr => by
      rcases List.mem_append.1 hr with h | h
      · exact hfo r h
      · rw [List.mem_singleton.1 h]; exact hx)
    have hpass := ih (i + 1) out (by omega) (by omega) hfo
    rw [← w64n (i := i) (by omega)] at hkeep hpass
    rw [← rdL1_at hil] at hx hkeep ⊢
    refine Ev.succ (fun k => by rw [comma_Records.l0]) (Ev.pos (by omega) (Ev.pos (by omega) (Ev.pos (by omega) ?_)))
    by_cases h0 : out.length = 0
    · have ho0 : out = [] := List.eq_nil_of_length_eq_zero h0
      have hb : better (ltFb p) out (rd_L1 l (i : Int)) = true := by rw [ho0]; rfl
      rw [if_pos hb]
      exact Ev.neg (by omega) (Ev.pos (by omega) hkeep)
    · have e1 : wrap64 ((out.length : Int) - 1) = ((out.length - 1 : Nat) : Int) := by rw [wrap64_id (by omega)]; omega
      have hlt : out.length - 1 < out.length := by omega
      have hlast : out.getLast? = some (rd_L1 out ((out.length - 1 : Nat) : Int)) := by
        rw [rdL1_at hlt, List.getLast?_eq_getElem?, List.getElem?_eq_getElem hlt]
      have hy : Few p (rd_L1 out ((out.length - 1 : Nat) : Int)) := hfo _ (List.mem_of_getLast? hlast)
      have hb : better (ltFb p) out (rd_L1 l (i : Int)) = ltFb p (rd_L1 l (i : Int)) (rd_L1 out ((out.length - 1 : Nat) : Int)) := by
        unfold better; rw [hlast]
      rw [hb, e1]
      refine Ev.pos (by omega) (Ev.pos (by omega) (Ev.pos (by omega) (Ev.bind (compare_ev hp hx hy) ?_)))
      have hc := cmpN_neg (numN p (rd_L1 l (i : Int)) * denN p (rd_L1 out ((out.length - 1 : Nat) : Int))) (numN p (rd_L1 out ((out.length - 1 : Nat) : Int)) * denN p (rd_L1 l (i : Int)))
      unfold ltFb
      by_cases hlt2 : numN p (rd_L1 l (i : Int)) * denN p (rd_L1 out ((out.length - 1 : Nat) : Int)) < numN p (rd_L1 out ((out.length - 1 : Nat) : Int)) * denN p (rd_L1 l (i : Int))
      · rw [if_pos (decide_eq_true hlt2)]
        exact Ev.neg (by have := hc.2 hlt2; omega) (Ev.pos (by omega) hkeep)
      · rw [if_neg (by simpa using hlt2)]
        exact Ev.pos (by have := mt hc.1 hlt2; omega) hpass
theorem records_ev {p : List Nat} (hp : p ∈ PL) {x : List Int} (h : Few p x) {H : Nat} (h1 : 1 ≤ H) (h2 : H ≤ 130) (hg : denN p x < numN p x) :
    Ev (fun k => comma_Records.f k (ints p) (H : Int) x) (recs (ltFb p) [] (spec p (numN p x) (denN p x) H), 0) := by
  unfold comma_Records.f
  refine Ev.bind (list_ev hp h h1 h2 hg) ?_
  have := records_loop hp (spec p (numN p x) (denN p x) H) (fun r hr => (spec_few hp h2 r hr).1) (spec_length hp h2) (H : Int) x 0 (spec p (numN p x) (denN p x) H).length 0 [] (by omega) (by simp) (fun r hr => by cases hr)
  rw [List.drop_zero] at this
  exact this
theorem spec_prefix (p : List Nat) (N De : Nat) (m : Nat) : ∀ d, ∃ t, spec p N De (m + d) = spec p N De m ++ t
  | 0 => ⟨[], by rw [List.append_nil]; rfl⟩
  | d + 1 => by
    obtain ⟨t, ht⟩ := spec_prefix p N De m d
    have h : spec p N De (m + d + 1) = spec p N De (m + d) ++ if (ex p (m + d + 1)).2 = true then rowsOf N De ⟨((m + d + 1 : Nat) : Int), (ex p (m + d + 1)).1⟩ (EL p (m + d)) else [] := rfl
    rw [ht, List.append_assoc] at h
    exact ⟨_, h⟩
end Go.Proofs.YtobdccgpbohpiaaGreatDoor
