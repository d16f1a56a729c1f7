/- Re: a part of the proof. -/
import Derived.Test.YtobdccgpbohpiaaGreatDoorRe21
import Derived.Test.YtobdccgpbohpiaaGreatDoorRe23
import Derived.Test.YtobdccgpbohpiaaGreatDoorRe24
import Derived.Test.YtobdccgpbohpiaaGreatDoorRe26
import Derived.Test.YtobdccgpbohpiaaGreatDoorRe30
set_option linter.unusedVariables false
set_option linter.unusedSimpArgs false
namespace Go.Proofs.YtobdccgpbohpiaaGreatDoor
open Go.RowKit Go.Lib F Go.Proofs.YtobdccgpbohpiaaGreatDoorW.PrintWords Go.Proofs.YtobdccgpbohpiaaGreatDoorW.PrintLast Go.Proofs.YtobdccgpbohpiaaGreatDoorW.PrintMore
theorem same12_loop (x y : List Int) (hl : x.length = y.length) (hb : x.length < 4611686018427387904) : ∀ (m i : Nat), i + m = x.length → Ev (fun k => schismalaw12_Same.l0 k x y i) (decide (x.drop i = y.drop i)) := by
  intro m
  induction m with
  | zero =>
    intro i hi
    refine Ev.succ (fun k => by rw [schismalaw12_Same.l0]) (Ev.neg (by omega) ?_)
    rw [List.drop_eq_nil_of_le (by omega), List.drop_eq_nil_of_le (by omega), decide_eq_true rfl]
    exact Ev.pure _
  | succ m ih =>
    intro i hi
    have hix : i < x.length := by omega
    have hiy : i < y.length := by omega
    have h3 := ih (i + 1) (by omega)
    have e1 : rd x (i : Int) = x[i] := by rw [rd_nat, List.getD_eq_getElem?_getD, List.getElem?_eq_getElem hix]; rfl
    have e2 : rd y (i : Int) = y[i] := by rw [rd_nat, List.getD_eq_getElem?_getD, List.getElem?_eq_getElem hiy]; rfl
    refine Ev.succ (fun k => by rw [schismalaw12_Same.l0]) ?_
    rw [w64n (by omega), e1, e2, List.drop_eq_getElem_cons hix, List.drop_eq_getElem_cons hiy]
    clear e1 e2
    refine Ev.pos (by omega) (Ev.pos (by omega) (Ev.pos (by omega) ?_))
    generalize x[i] = a
    generalize y[i] = b
    generalize hu : x.drop (i + 1) = u at h3 ⊢
    generalize hv : y.drop (i + 1) = v at h3 ⊢
    by_cases h : a = b
    · have : decide (a :: u = b :: v) = decide (u = v) := by simp [h]
      rw [this]
      exact Ev.pos h h3
    · have : decide (a :: u = b :: v) = false := by simp [h]
      rw [this]
      exact Ev.neg h (Ev.pure _)
theorem same12_ev (x y : List Int) (hb : x.length < 4611686018427387904) : Ev (fun k => schismalaw12_Same.f k x y) (decide (x = y)) := by
  unfold schismalaw12_Same.f
  by_cases h : x.length = y.length
  · have := same12_loop x y h hb x.length 0 (by omega)
    rw [List.drop_zero, List.drop_zero] at this
    exact Ev.pos (by omega) this
  · rw [decide_eq_false (fun e => h (by rw [e]))]
    exact Ev.neg (by omega) (Ev.pure _)
theorem rdL1_at {l : List (List Int)} {i : Nat} (h : i < l.length) : rd_L1 l (i : Int) = l[i] := by
  unfold rd_L1
  rw [Int.toNat_natCast, List.getD_eq_getElem?_getD, List.getElem?_eq_getElem h]; rfl
theorem same_loop (x y : List (List Int)) (hl : x.length = y.length) (hb : x.length < 4611686018427387904) (ha : ∀ r ∈ x, r.length < 4611686018427387904) : ∀ (m i : Nat), i + m = x.length → Ev (fun k => schismalaw16_same.l0 k x y i) (decide (x.drop i = y.drop i)) := by
  intro m
  induction m with
  | zero =>
    intro i hi
    refine Ev.succ (fun k => by rw [schismalaw16_same.l0]) (Ev.neg (by omega) ?_)
    rw [List.drop_eq_nil_of_le (by omega), List.drop_eq_nil_of_le (by omega), decide_eq_true rfl]
    exact Ev.pure _
  | succ m ih =>
    intro i hi
    have hix : i < x.length := by omega
    have hiy : i < y.length := by omega
    have h3 := ih (i + 1) (by omega)
    have hlen := ha _ (List.getElem_mem hix)
    refine Ev.succ (fun k => by rw [schismalaw16_same.l0]) ?_
    rw [w64n (by omega), rdL1_at hix, rdL1_at hiy, List.drop_eq_getElem_cons hix, List.drop_eq_getElem_cons hiy]
    refine Ev.pos (by omega) (Ev.pos (by omega) (Ev.pos (by omega) ?_))
    generalize x[i] = a at hlen ⊢
    generalize y[i] = b
    generalize hu : x.drop (i + 1) = u at h3 ⊢
    generalize hv : y.drop (i + 1) = v at h3 ⊢
    refine Ev.bind (same12_ev a b hlen) ?_
    by_cases h : a = b
    · have : decide (a :: u = b :: v) = decide (u = v) := by simp [h]
      rw [this]
      exact Ev.pos (decide_eq_true h) h3
    · have : decide (a :: u = b :: v) = false := by simp [h]
      rw [this]
      exact Ev.neg (by rw [decide_eq_false h]; decide) (Ev.pure _)
theorem same_ev (x y : List (List Int)) (hb : x.length < 4611686018427387904) (ha : ∀ r ∈ x, r.length < 4611686018427387904) : Ev (fun k => schismalaw16_same.f k x y) (decide (x = y)) := by
  unfold schismalaw16_same.f
  by_cases h : x.length = y.length
  · have := same_loop x y h hb ha x.length 0 (by omega)
    rw [List.drop_zero, List.drop_zero] at this
    exact Ev.pos (by omega) this
  · rw [decide_eq_false (fun e => h (by rw [e]))]
    exact Ev.neg (by omega) (Ev.pure _)
theorem prime_PL : PL.all (fun p => prime_Check.f 40 (ints p) == some 0) = true := by kernel_rfl
theorem prime_ev {p : List Nat} (hp : p ∈ PL) : Ev (fun k => prime_Check.f k (ints p)) 0 :=
  Ev.of_mono (fun k => prime_Check.mono _ k) (eq_of_beq (List.all_eq_true.1 prime_PL p hp))
def big (x : List Int) : Bool := x.any fun n => decide (n > 1000) || decide (n < -1000)
def rowsErr (n : Nat) : List (List Int) → Int
  | [] => 0
  | x :: l => if x.length = n then (if big x = true then 4 else rowsErr n l) else 5
theorem chk_in (p : List Int) (l : List (List Int)) (n i : Int) (x : List Int) (hb : x.length < 4611686018427387904) (r : Int) (hR : Ev (fun k => monzo_CheckAll.l0 k p l n (wrap64 (i + 1))) r) : ∀ (m j : Nat), j + m = x.length →
    Ev (fun k => monzo_CheckAll.l1 k p l n i x (x.length : Int) (j : Int)) (if big (x.drop j) = true then 4 else r) := by
  intro m
  induction m with
  | zero =>
    intro j hj
    rw [List.drop_eq_nil_of_le (by omega), if_neg (by decide : ¬ big [] = true)]
    exact Ev.succ (fun k => by rw [monzo_CheckAll.l1]) (Ev.neg (by omega) hR)
  | succ m ih =>
    intro j hj
    have hjx : j < x.length := by omega
    have h3 := ih (j + 1) (by omega)
    have e1 : rd x (j : Int) = x[j] := by rw [rd_nat, List.getD_eq_getElem?_getD, List.getElem?_eq_getElem hjx]; rfl
    refine Ev.succ (fun k => by rw [monzo_CheckAll.l1]) ?_
    rw [w64n (by omega), e1, List.drop_eq_getElem_cons hjx]
    clear e1
    have e2 : big (x[j] :: x.drop (j + 1)) = ((decide (x[j] > 1000) || decide (x[j] < -1000)) || big (x.drop (j + 1))) := rfl
    rw [e2]
    refine Ev.pos (by omega) (Ev.pos (by omega) (Ev.pos (by omega) ?_))
    by_cases h1 : x[j] > 1000
    · rw [if_pos (by simp [h1])]
      exact Ev.pos h1 (Ev.pure _)
    · refine Ev.neg h1 ?_
      by_cases h2 : x[j] < -1000
      · rw [if_pos (by simp [h2])]
        exact Ev.pos h2 (Ev.pure _)
      · refine Ev.neg h2 ?_
        rw [decide_eq_false h1, decide_eq_false h2, Bool.or_self, Bool.false_or]
        exact h3
theorem chk_loop (p : List Int) (l : List (List Int)) (hb : l.length < 4611686018427387904) (ha : ∀ x ∈ l, x.length < 4611686018427387904) : ∀ (m i : Nat), i + m = l.length →
    Ev (fun k => monzo_CheckAll.l0 k p l (l.length : Int) (i : Int)) (rowsErr p.length (l.drop i)) := by
  intro m
  induction m with
  | zero =>
    intro i hi
    rw [List.drop_eq_nil_of_le (by omega), rowsErr]
    refine Ev.succ (fun k => by rw [monzo_CheckAll.l0]) (Ev.neg ?_ (Ev.pure _))
    omega
  | succ m ih =>
    intro i hi
    have hil : i < l.length := by omega
    have h3 := ih (i + 1) (by omega)
    have hx := ha _ (List.getElem_mem hil)
    rw [← w64n (i := i) (by omega)] at h3
    refine Ev.succ (fun k => by rw [monzo_CheckAll.l0]) ?_
    rw [rdL1_at hil, List.drop_eq_getElem_cons hil, rowsErr]
    refine Ev.pos (by omega) (Ev.pos (by omega) (Ev.pos (by omega) ?_))
    by_cases hc : l[i].length = p.length
    · rw [if_pos hc]
      refine Ev.pos (by omega) ?_
      exact chk_in p l _ _ _ hx _ h3 (l[i]).length 0 (by omega)
    · rw [if_neg hc]
      exact Ev.neg (by omega) (Ev.pure _)
theorem checkAll_ev {p : List Nat} (hp : p ∈ PL) (l : List (List Int)) (hb : l.length < 4611686018427387904) (ha : ∀ x ∈ l, x.length < 4611686018427387904) : Ev (fun k => monzo_CheckAll.f k (ints p) l) (rowsErr p.length l) := by
  unfold monzo_CheckAll.f
  refine Ev.bind (prime_ev hp) (Ev.pos rfl ?_)
  have := chk_loop (ints p) l hb ha l.length 0 (by omega)
  have e3 : (ints p).length = p.length := by unfold ints; rw [List.length_map]
  rw [List.drop_zero, e3] at this
  exact this
structure Few (p : List Nat) (x : List Int) : Prop where
  len : x.length = p.length
  exps : ∀ n ∈ x, -1000 ≤ n ∧ n ≤ 1000
theorem PL_primes {p : List Nat} (hp : p ∈ PL) : ∀ a ∈ p, 2 ≤ a ∧ a < 16 := fun a ha => by
  have : PL.all (fun p => p.all fun a => decide (2 ≤ a ∧ a < 16)) = true := by decide
  simpa using List.all_eq_true.1 (List.all_eq_true.1 this p hp) a ha
theorem Few.fits {p : List Nat} (hp : p ∈ PL) {x : List Int} (h : Few p x) : Fits p x := ⟨h.len, by have := PL_length hp; omega, fun a ha => by have := PL_primes hp a ha; omega, h.exps⟩
theorem Few.big {p : List Nat} {x : List Int} (h : Few p x) : big x = false := by
  unfold Go.Proofs.YtobdccgpbohpiaaGreatDoor.big
  rw [List.any_eq_false]
  intro n hn
  have := h.exps n hn
  simp; omega
theorem side_digits {p : List Nat} (hp : p ∈ PL) : ∀ {x : List Int}, Few p x → nDigits (numN p x) ≤ 100000 ∧ nDigits (denN p x) ≤ 100000 := by
  intro x h
  have := fits_digits p x (fun a ha => by have := PL_primes hp a ha; omega) h.exps
  have := PL_length hp
  omega
theorem sign_ev {p : List Nat} (hp : p ∈ PL) {x : List Int} (h : Few p x) : Ev (fun k => monzo_Sign.f k (ints p) x) (cmpN (numN p x) (denN p x), 0) := by
  have hd := side_digits hp h
  have hl := PL_length hp
  have hc := checkAll_ev hp [x] (by simp) (fun y hy => by rw [List.mem_singleton.1 hy, h.len]; omega)
  rw [rowsErr, if_pos h.len, h.big, if_neg (by decide), rowsErr] at hc
  unfold monzo_Sign.f monzo_Check.f
  exact Ev.bind (Ev.bind hc (Ev.pure _)) (Ev.pos rfl (Ev.bind (sides_ev p x (h.fits hp)).2 (Ev.bind (Ev.const (dCmp_D _ _ (by omega) (by omega))) (Ev.pure _))))
theorem check_ev {p : List Nat} (hp : p ∈ PL) {x : List Int} (h : Few p x) {H : Nat} (h1 : 1 ≤ H) (h2 : H ≤ 130) (hg : denN p x < numN p x) : Ev (fun k => comma_Check.f k (ints p) (H : Int) x) 0 := by
  unfold comma_Check.f
  refine Ev.bind (sign_ev hp h) (Ev.pos rfl (Ev.neg (by omega) ?_))
  rw [decide_eq_false (by omega : ¬ (H : Int) > 5000)]
  have := (cmpN_pos _ _).2 hg
  exact Ev.succ (fun k => by rw [comma_Check.j0]) (Ev.neg (by decide) (Ev.neg (by show ¬ cmpN _ _ ≤ 0; omega) (Ev.pure _)))
theorem list_ev {p : List Nat} (hp : p ∈ PL) {x : List Int} (h : Few p x) {H : Nat} (h1 : 1 ≤ H) (h2 : H ≤ 130) (hg : denN p x < numN p x) : Ev (fun k => comma_List.f k (ints p) (H : Int) x) (spec p (numN p x) (denN p x) H, 0) := by
  have hd := side_digits hp h
  unfold comma_List.f
  exact Ev.bind (check_ev hp h h1 h2 hg) (Ev.pos rfl (Ev.bind (sides_ev p x (h.fits hp)).1 (Ev.bind (numbers_ev hp h1 h2) (listG_ev hp h2 hd.1 hd.2))))
theorem lawl_ev {p : List Nat} (hp : p ∈ PL) {x : List Int} (h : Few p x) {H : Nat} (h1 : 1 ≤ H) (h2 : H ≤ 130) : Ev (fun k => schismalaw16_list.f k (ints p) (H : Int) x) (spec p (numN p x) (denN p x) H, (law p (numN p x) (denN p x) H).map Prod.snd) := by
  have hd := side_digits hp h
  unfold schismalaw16_list.f
  exact Ev.bind (value_ev p x (h.fits hp)) (law_ev hp h1 h2 hd.1 hd.2 x)
def plan (a : Int) : List Nat := PL.getD (Int.tmod a 10).toNat []
theorem primes_plan (a : Int) (h0 : 0 ≤ a) (h1 : a < 256) : schismalaw12_Primes.f a = some (ints (plan a)) ∧ plan a ∈ PL := by
  have hw : wrap64 a = a := wrap64_id (by omega)
  unfold schismalaw12_Primes.f plan
  rw [hw]
  clear hw
  show (if ((10 : Nat) : Int) = 0 then none else if 0 ≤ Int.tmod a ((10 : Nat) : Int) then if Int.tmod a ((10 : Nat) : Int) < ((10 : Nat) : Int) then some (rd_L1 (PL.map ints) (Int.tmod a ((10 : Nat) : Int))) else none else none) = _ ∧ _
  rw [show ((10 : Nat) : Int) = 10 from rfl, Int.tmod_eq_emod_of_nonneg h0]
  have h2 : 0 ≤ a % 10 := by omega
  have h3 : a % 10 < 10 := by omega
  generalize a % 10 = t at h2 h3
  obtain ⟨n, rfl⟩ := Int.eq_ofNat_of_zero_le h2
  match n, h3 with
  | 0, _ | 1, _ | 2, _ | 3, _ | 4, _ | 5, _ | 6, _ | 7, _ | 8, _ | 9, _ => exact ⟨rfl, by decide⟩
  | n + 10, h3 => omega
def ivl (p : List Nat) (a0 a1 a2 a3 : Int) : List Int := ([a0, a1, a2, a3].map fun x => Int.tmod x 10).take p.length
theorem interval_few {p : List Nat} (hp : p ∈ PL) (a0 a1 a2 a3 : Int) (h : (-128 ≤ a0 ∧ a0 < 128) ∧ (-128 ≤ a1 ∧ a1 < 128) ∧ (-128 ≤ a2 ∧ a2 < 128) ∧ (-128 ≤ a3 ∧ a3 < 128)) :
    g_Interval.f (ints p) a0 a1 a2 a3 = some (ivl p a0 a1 a2 a3) ∧ Few p (ivl p a0 a1 a2 a3) ∧ ∀ n ∈ ivl p a0 a1 a2 a3, -9 ≤ n ∧ n ≤ 9 := by
  have hl := PL_length hp
  have hm : ∀ n ∈ ivl p a0 a1 a2 a3, -9 ≤ n ∧ n ≤ 9 := fun n hn => by
    obtain ⟨x, _, rfl⟩ := List.mem_map.1 (List.mem_of_mem_take hn)
    rcases Int.le_total 0 x with hx | hx
    · rw [Int.tmod_eq_emod_of_nonneg hx]; omega
    · obtain ⟨y, rfl⟩ : ∃ y, x = -y := ⟨-x, by omega⟩
      rw [Int.neg_tmod, Int.tmod_eq_emod_of_nonneg (by omega)]; omega
  refine ⟨?_, ⟨?_, fun n hn => ?_⟩, hm⟩
  · have e3 : (ints p).length = p.length := by unfold ints; rw [List.length_map]
    unfold g_Interval.f ivl
    simp only [List.map_cons, List.map_nil]
    rw [wrap64_id (by omega), wrap64_id (by omega), wrap64_id (by omega), wrap64_id (by omega), e3]
  · unfold ivl
    rw [List.length_take, List.length_map]
    show min p.length 4 = p.length
    omega
  · have := hm n hn; omega
def hgt (a : Int) : Nat := 1 + (a % 130).toNat
theorem make_ev (a0 a1 a2 a3 a4 a5 : Int) (h0 : 0 ≤ a0 ∧ a0 < 256) (h : (-128 ≤ a1 ∧ a1 < 128) ∧ (-128 ≤ a2 ∧ a2 < 128) ∧ (-128 ≤ a3 ∧ a3 < 128) ∧ (-128 ≤ a4 ∧ a4 < 128)) (h5 : 0 ≤ a5 ∧ a5 < 256) :
    Ev (fun k => schismalaw16_Make.f k a0 a1 a2 a3 a4 a5) (ints (plan a0), (hgt a5 : Int), ivl (plan a0) a1 a2 a3 a4, decide (denN (plan a0) (ivl (plan a0) a1 a2 a3 a4) < numN (plan a0) (ivl (plan a0) a1 a2 a3 a4))) := by
  obtain ⟨p1, hp⟩ := primes_plan a0 h0.1 h0.2
  obtain ⟨i1, i2, _⟩ := interval_few hp a1 a2 a3 a4 h
  have hd := side_digits hp i2
  have hm : schismalaw12_Make.f a0 a1 a2 a3 a4 = some (ints (plan a0), ivl (plan a0) a1 a2 a3 a4) := by
    unfold schismalaw12_Make.f
    rw [p1, Option.bind_some, i1]; rfl
  have hw : wrap64 (1 + Int.tmod (wrap64 a5) 130) = (hgt a5 : Int) := by
    rw [wrap64_id (by omega : -9223372036854775808 ≤ a5 ∧ a5 ≤ 9223372036854775807), Int.tmod_eq_emod_of_nonneg h5.1, wrap64_id (by omega)]
    unfold hgt
    omega
  have hdc : ∀ a b : Nat, decide (cmpN a b > 0) = decide (b < a) := fun a b => decide_eq_decide.2 (cmpN_pos a b)
  unfold schismalaw16_Make.f
  rw [hw]
  have hcm := wCmp_D _ _ (Nat.le_trans hd.1 (by omega)) (Nat.le_trans hd.2 (by omega))
  refine Ev.bind (Ev.const hm) (Ev.bind (value_ev _ _ (i2.fits hp)) (Ev.bind (Ev.const hcm) ?_))
  rw [hdc]
  exact Ev.pure _
end Go.Proofs.YtobdccgpbohpiaaGreatDoor
set_option linter.unusedVariables false
set_option linter.unusedSimpArgs false
namespace Go.Proofs.YtobdccgpbohpiaaGreatDoor
open Go.RowKit Go.Lib F Go.Proofs.YtobdccgpbohpiaaGreatDoorW.PrintWords Go.Proofs.YtobdccgpbohpiaaGreatDoorW.PrintLast Go.Proofs.YtobdccgpbohpiaaGreatDoorW.PrintMore
theorem sorted_one' {α : Type} (lt : α → α → Prop) : ∀ (l m : List α), l.Perm m → l.Pairwise (fun a b => ¬ lt b a) → m.Pairwise lt → l = m
  | [], m, h, _, _ => (List.Perm.nil_eq h)
  | a :: l, [], h, _, _ => by have := h.length_eq; simp at this
  | a :: l, b :: m, h, h1, h2 => by
    have hab : a = b := by
      rw [List.pairwise_cons] at h1 h2
      rcases List.mem_cons.1 (h.mem_iff.1 List.mem_cons_self : a ∈ b :: m) with e | ha
      · exact e
      · rcases List.mem_cons.1 (h.mem_iff.2 List.mem_cons_self : b ∈ a :: l) with e | hb
        · exact e.symm
        · exact absurd (h2.1 a ha) (h1.1 b hb)
    subst hab
    rw [sorted_one' lt l m (List.Perm.cons_inv h) (List.pairwise_cons.1 h1).2 (List.pairwise_cons.1 h2).2]
def sz (p : List Nat) (r : List Int) : S95 := ⟨D (numN p r), D (denN p r), r⟩
theorem cmp_sz (p : List Nat) (r s : List Int) : cmpSized (sz p r) (sz p s) = cmpN (numN p r * denN p s) (numN p s * denN p r) := by
  unfold cmpSized sz
  rw [valB_D, valB_D, valB_D, valB_D]
def ltF (p : List Nat) (r s : List Int) : Prop := numN p r * denN p s < numN p s * denN p r
def lean9 (p : List Nat) (r : List Int) : Prop := nDigits (numN p r) ≤ 9 ∧ nDigits (denN p r) ≤ 9 ∧ 0 < denN p r
theorem sized_unique (p : List Nat) (rows rows' : List (List Int)) (h9 : ∀ r ∈ rows, lean9 p r) (hl : rows.length < 4611686018427387904) (hp : rows.Perm rows') (hs : rows'.Pairwise (ltF p)) : g_sort_sized.f (rows.map (sz p)) = some (rows'.map (sz p)) := by
  have hfit : fitSized (rows.map (sz p)) = true := by
    unfold fitSized
    rw [Bool.and_eq_true]
    refine ⟨decide_eq_true (by rw [List.length_map]; exact hl), List.all_eq_true.2 fun x hx => ?_⟩
    obtain ⟨r, hr, rfl⟩ := List.mem_map.1 hx
    obtain ⟨a, b, c⟩ := h9 r hr
    rw [Bool.and_eq_true, Bool.and_eq_true]
    exact ⟨⟨canon_D a, canon_D b⟩, decide_eq_true (by show 0 < valB (D _); rw [valB_D]; exact c)⟩
  have hO := sized_order (l := rows.map (sz p)) (fun x hx => by
    obtain ⟨r, hr, rfl⟩ := List.mem_map.1 hx
    show 0 < valB (D _)
    rw [valB_D]; exact (h9 r hr).2.2)
  unfold g_sort_sized.f
  rw [if_pos hfit]
  congr 1
  refine sorted_one' (fun a b => cmpSized a b < 0) _ _ ((sortL_perm cmpSized z95 _ hO).trans (hp.map _)) (sortL_sorted cmpSized z95 _ hO) ?_
  rw [List.pairwise_map]
  refine hs.imp (fun {a b} h => ?_)
  rw [cmp_sz, cmpN_lt]; exact h
theorem small_loop1 (xs : List S95) (hl : xs.length ≤ 100000) : ∀ (m i : Nat) (out : List (List Int)), i + m = xs.length → out.length ≤ i →
    Ev (fun k => comma_Smallest.l1 k out xs (xs.length : Int) (i : Int)) (out ++ (xs.drop i).map (fun x => x.f2), 0) := by
  intro m
  induction m with
  | zero =>
    intro i out hi ho
    rw [List.drop_eq_nil_of_le (by omega), List.map_nil, List.append_nil]
    refine Ev.succ (fun k => by rw [comma_Smallest.l1]) (Ev.neg ?_ (Ev.pure _))
    omega
  | succ m ih =>
    intro i out hi ho
    have hil : i < xs.length := by omega
    have e2 : rd_T95 xs (i : Int) = xs[i] := by
      unfold rd_T95
      rw [Int.toNat_natCast, List.getD_eq_getElem?_getD, List.getElem?_eq_getElem hil]; rfl
    have h3 := ih (i + 1) (out ++ [(xs[i]).f2]) (by omega) (by rw [List.length_append, List.length_singleton]; omega)
    refine Ev.succ (fun k => by rw [comma_Smallest.l1]) ?_
    rw [e2, w64n (by omega), List.drop_eq_getElem_cons hil, List.map_cons]
    refine Ev.pos (by omega) (Ev.pos (by omega) (Ev.pos (by omega) (Ev.pos (by omega) ?_)))
    rw [List.append_assoc, List.singleton_append] at h3
    exact h3
theorem small_loop0 {p : List Nat} (hp : p ∈ PL) (c : Nat) (rows : List (List Int)) (hr : ∀ r ∈ rows, Few p r) (hl : rows.length ≤ 100000) (H : Int) (x : List Int) (srt : List S95) (hs : g_sort_sized.f (rows.map (sz p)) = some srt) (hsl : srt.length = rows.length) : ∀ (m i : Nat), i + m = rows.length →
    Ev (fun k => comma_Smallest.l0 k (c : Int) ((rows.take i).map (sz p)) rows (rows.length : Int) (i : Int) (ints p) H x) ((srt.take c).map (fun x => x.f2), 0) := by
  intro m
  induction m with
  | zero =>
    intro i hi
    have : i = rows.length := by omega
    subst this
    rw [List.take_length]
    refine Ev.succ (fun k => by rw [comma_Smallest.l0]) (Ev.neg (by omega) (Ev.bind (Ev.const hs) ?_))
    rw [List.length_map]
    have e1 : (mn (c : Int) (rows.length : Int)) = ((min c rows.length : Nat) : Int) := by unfold mn; split <;> omega
    rw [e1, Int.toNat_natCast]
    refine Ev.pos (by omega) (Ev.pos (by omega) (Ev.bind (Ev.pure _) ?_))
    have e2 : srt.take (min c rows.length) = srt.take c := by
      by_cases h : c ≤ rows.length
      · rw [Nat.min_eq_left h]
      · rw [Nat.min_eq_right (by omega), List.take_of_length_le (by omega), List.take_of_length_le (by omega)]
    rw [e2]
    have := small_loop1 (srt.take c) (by rw [List.length_take]; omega) _ 0 [] (Nat.zero_add _) (Nat.le_refl _)
    rw [List.drop_zero, List.nil_append] at this
    exact this
  | succ m ih =>
    intro i hi
    have hil : i < rows.length := by omega
    have h3 := ih (i + 1) (by omega)
    rw [List.take_succ_eq_append_getElem hil, List.map_append] at h3
    refine Ev.succ (fun k => by rw [comma_Smallest.l0]) ?_
    rw [rdL1_at hil, w64n (by omega)]
    exact Ev.pos (by omega) (Ev.pos (by omega) (Ev.pos (by omega) (Ev.bind (sides_ev p _ ((hr _ (List.getElem_mem hil)).fits hp)).1 (Ev.pos (by rw [List.length_map, List.length_take]; omega) h3))))
def pairB (p : List Nat) : Bool := (EL p 130).all fun a => (EL p 130).all fun b => !(Nat.gcd a.f0.toNat b.f0.toNat == 1) || (numN p (subL a.f1 b.f1) == a.f0.toNat && denN p (subL a.f1 b.f1) == b.f0.toNat)
theorem pairB_PL : PL.all pairB = true := by kernel_rfl
structure Isz (p : List Nat) (q : List Int × S47) : Prop where
  n1 : 1 ≤ q.2.f0 ∧ q.2.f0 ≤ 130
  d1 : 1 ≤ q.2.f1 ∧ q.2.f1 ≤ 130
  num : numN p q.1 = q.2.f0.toNat
  den : denN p q.1 = q.2.f1.toNat
  cop : Nat.gcd q.2.f0.toNat q.2.f1.toNat = 1
  few : Few p q.1
theorem inL_isz {p : List Nat} (hp : p ∈ PL) {N De : Nat} (a : S83) (ha : a ∈ EL p 130) : ∀ m, m ≤ 130 → ∀ q ∈ inL p N De a m, Isz p q ∧ q.2.f0 = a.f0 ∧ q.2.f1 ≤ m
  | 0, _, q, hq => by simp [inL] at hq
  | m + 1, hm, q, hq => by
    rw [inL] at hq
    rcases List.mem_append.1 hq with hq | hq
    · have := inL_isz hp a ha m (by omega) q hq
      exact ⟨this.1, this.2.1, by omega⟩
    · split at hq
      · rename_i hc
        obtain ⟨hs, hg, hle⟩ := hc
        rw [List.mem_singleton.1 hq]
        have hb := ex_mem (n := m + 1) (H := 130) (by omega) hm hs
        have h0 := EL_f0 p 130 a ha
        have h1 := EL_sane hp (Nat.le_refl 130) a ha
        have h2 := EL_sane hp (Nat.le_refl 130) _ hb
        have h3 := List.all_eq_true.1 (List.all_eq_true.1 (List.all_eq_true.1 pairB_PL p hp) a ha) _ hb
        rw [Int.toNat_natCast, hg, beq_self_eq_true, Bool.not_true, Bool.false_or, Bool.and_eq_true, beq_iff_eq, beq_iff_eq] at h3
        refine ⟨⟨⟨h0.1, h0.2⟩, ⟨?_, ?_⟩, h3.1, ?_, ?_, ⟨?_, ?_⟩⟩, rfl, Int.le_refl _⟩
        · show (1 : Int) ≤ ((m + 1 : Nat) : Int); omega
        · show ((m + 1 : Nat) : Int) ≤ 130; omega
        · show _ = ((m + 1 : Nat) : Int).toNat
          rw [Int.toNat_natCast]; exact h3.2
        · show Nat.gcd _ ((m + 1 : Nat) : Int).toNat = 1
          rw [Int.toNat_natCast]; exact hg
        · show (subL a.f1 _).length = _
          have e1 := h1.1
          have e2 : (ex p (m + 1)).1.length = p.length := h2.1
          unfold subL
          rw [List.length_zipWith]; omega
        · intro n hn
          have e3 : ∀ n ∈ (ex p (m + 1)).1, 0 ≤ n ∧ n ≤ 7 := h2.2
          have hn' : n ∈ subL a.f1 (ex p (m + 1)).1 := hn
          unfold subL at hn'
          rw [List.mem_iff_getElem] at hn'
          obtain ⟨i, hi, rfl⟩ := hn'
          rw [List.getElem_zipWith]
          rw [List.length_zipWith] at hi
          have g1 := h1.2 _ (List.getElem_mem (by omega : i < a.f1.length))
          have g2 := e3 _ (List.getElem_mem (by omega : i < (ex p (m + 1)).1.length))
          rw [wrap64_id (by omega)]; omega
      · simp at hq
theorem law_isz {p : List Nat} (hp : p ∈ PL) {N De : Nat} : ∀ m, m ≤ 130 → ∀ q ∈ law p N De m, Isz p q ∧ q.2.f0 ≤ m
  | 0, _, q, hq => by simp [law] at hq
  | m + 1, hm, q, hq => by
    rw [law] at hq
    rcases List.mem_append.1 hq with hq | hq
    · have := law_isz hp m (by omega) q hq
      exact ⟨this.1, by omega⟩
    · split at hq
      · rename_i hs
        have := inL_isz hp _ (ex_mem (n := m + 1) (H := 130) (by omega) hm hs) m (by omega) q hq
        exact ⟨this.1, by rw [this.2.1]; exact Int.le_refl _⟩
      · simp at hq
theorem spec_few {p : List Nat} (hp : p ∈ PL) {N De H : Nat} (h : H ≤ 130) : ∀ r ∈ spec p N De H, Few p r ∧ lean9 p r := fun r hr => by
  rw [← law_spec hp H h] at hr
  obtain ⟨q, hq, rfl⟩ := List.mem_map.1 hr
  have hi := (law_isz hp H h q hq).1
  have h1 := hi.n1
  have h2 := hi.d1
  refine ⟨hi.few, ?_, ?_, ?_⟩
  · rw [hi.num]; exact Nat.le_trans (digits_130 (by omega)) (by omega)
  · rw [hi.den]; exact Nat.le_trans (digits_130 (by omega)) (by omega)
  · rw [hi.den]; omega
theorem spec_length {p : List Nat} (hp : p ∈ PL) {N De H : Nat} (h : H ≤ 130) : (spec p N De H).length ≤ 20000 := by
  rw [← law_spec hp H h, List.length_map]
  have := law_length (p := p) (N := N) (De := De) H h
  omega
theorem smallest_ev {p : List Nat} (hp : p ∈ PL) {x : List Int} (h : Few p x) {H : Nat} (h1 : 1 ≤ H) (h2 : H ≤ 130) (hg : denN p x < numN p x) (c : Nat) (hc : c ≤ 100) (rows' : List (List Int)) (hpm : (spec p (numN p x) (denN p x) H).Perm rows') (hs : rows'.Pairwise (ltF p)) :
    Ev (fun k => comma_Smallest.f k (ints p) (H : Int) x (c : Int)) (rows'.take c, 0) := by
  have hfew := fun r hr => (spec_few hp (N := numN p x) (De := denN p x) h2 r hr).1
  have hl := spec_length hp (N := numN p x) (De := denN p x) h2
  have hsrt := sized_unique p _ rows' (fun r hr => (spec_few hp h2 r hr).2) (by omega) hpm hs
  have hlen : (rows'.map (sz p)).length = (spec p (numN p x) (denN p x) H).length := by rw [List.length_map, hpm.length_eq]
  unfold comma_Smallest.f
  refine Ev.bind (check_ev hp h h1 h2 hg) (Ev.pos rfl (Ev.neg (by omega) ?_))
  rw [decide_eq_false (by omega : ¬ (c : Int) > 100)]
  refine Ev.succ (fun k => by rw [comma_Smallest.j0]) (Ev.neg (by decide) (Ev.bind (list_ev hp h h1 h2 hg) (Ev.pos rfl ?_)))
  have := small_loop0 hp c _ hfew (by omega) (H : Int) x _ hsrt hlen (spec p (numN p x) (denN p x) H).length 0 (by omega)
  rw [List.take_zero, List.map_nil, ← List.map_take, List.map_map] at this
  have e : ((fun x : S95 => x.f2) ∘ sz p) = id := rfl
  rw [e, List.map_id] at this
  exact this
theorem filt_ev {p : List Nat} (hp : p ∈ PL) : ∀ (l : List (List Int)), (∀ r ∈ l, Few p r) → Ev (fun k => filtC k (ints p) l) (some (l.filter fun r => decide (denN p r < numN p r)))
  | [], _ => Ev.pure _
  | x :: t, h => by
    have ih := filt_ev hp t (fun r hr => h r (List.mem_cons_of_mem _ hr))
    have hs := sign_ev hp (h x List.mem_cons_self)
    obtain ⟨k1, h1⟩ := ih
    obtain ⟨k2, h2⟩ := hs
    refine ⟨max k1 k2, fun k hk => ?_⟩
    show filtC k (ints p) (x :: t) = _
    have e1 : filtC k (ints p) t = _ := h1 k (by omega)
    have e2 : monzo_Sign.f k (ints p) x = _ := h2 k (by omega)
    rw [filtC, e2, Option.bind_some, if_pos rfl, e1]
    by_cases hc : denN p x < numN p x
    · rw [List.filter_cons_of_pos (by simpa using hc)]
      show some (some (if cmpN (numN p x) (denN p x) > 0 then _ else _)) = _
      rw [if_pos ((cmpN_pos _ _).2 hc)]
    · rw [List.filter_cons_of_neg (by simpa using hc)]
      show some (some (if cmpN (numN p x) (denN p x) > 0 then _ else _)) = _
      rw [if_neg (fun hh => hc ((cmpN_pos _ _).1 hh))]
theorem rowOrder (l : List (List Int)) : ∀ x ∈ l, ∀ y ∈ l, ∀ q ∈ l, ¬ cmpRow x x < 0 ∧ (cmpRow x y < 0 → cmpRow y q < 0 → cmpRow x q < 0) ∧ (¬ cmpRow x y < 0 → ¬ cmpRow y q < 0 → ¬ cmpRow x q < 0) :=
  fun x _ y _ q _ => ⟨by rw [cmpRow_self]; omega, cmpRow_order x y q⟩
theorem few235 : Few [2, 3, 5] [-2, 0, 1] := ⟨rfl, by decide⟩
theorem spec235 : spec [2, 3, 5] 5 4 10 = [[-2, 0, 1], [1, 1, -1], [-3, 2, 0], [1, -2, 1]] := by kernel_rfl
theorem in235 : [2, 3, 5] ∈ PL := by decide
theorem ex1 : Ev (fun k => comma_List.f k [2, 3, 5] 10 [-2, 0, 1]) ([[-2, 0, 1], [1, 1, -1], [-3, 2, 0], [1, -2, 1]], 0) := by
  have := list_ev in235 few235 (H := 10) (by omega) (by omega) (by decide)
  rw [← spec235]
  exact this
theorem ex2 : Ev (fun k => comma_Smallest.f k [2, 3, 5] 10 [-2, 0, 1] 2) ([[1, -2, 1], [-3, 2, 0]], 0) := by
  have := smallest_ev in235 few235 (H := 10) (by omega) (by omega) (by decide) 2 (by omega) [[1, -2, 1], [-3, 2, 0], [1, 1, -1], [-2, 0, 1]] (by
    show (spec [2, 3, 5] 5 4 10).Perm _
    rw [spec235]
    decide) (by unfold ltF; decide)
  exact this
theorem all23 : allC 2 2 [[-1, 1]] = [[2, -2], [1, -1], [0, 0], [-1, 1], [-2, 2]] := by kernel_rfl
theorem ex3 : Ev (fun k => g_Combine.f k [2, 3] [[-1, 1]] 2) ([[-2, 2], [-1, 1]], 0) := by
  have hp : [2, 3] ∈ PL := by decide
  have h1 := checkAll_ev hp [[-1, 1]] (by decide) (by decide)
  have h2 := filt_ev hp [[2, -2], [1, -1], [0, 0], [-1, 1], [-2, 2]] (fun r hr => by
    have : ∀ r ∈ ([[2, -2], [1, -1], [0, 0], [-1, 1], [-2, 2]] : List (List Int)), r.length = 2 ∧ ∀ n ∈ r, -1000 ≤ n ∧ n ≤ 1000 := by decide
    exact ⟨(this r hr).1, (this r hr).2⟩)
  have hsrt : g_sort_Row.f [[-1, 1], [-2, 2]] = some [[-2, 2], [-1, 1]] := by
    unfold g_sort_Row.f
    rw [if_pos (by decide)]
    congr 1
    exact sorted_one' (fun a b => cmpRow a b < 0) _ _ ((sortL_perm cmpRow [] _ (rowOrder _)).trans (by decide)) (sortL_sorted cmpRow [] _ (rowOrder _)) (by decide)
  have hcmp : g_compact_Row.f [[-2, 2], [-1, 1]] = some [[-2, 2], [-1, 1]] := by decide
  unfold g_Combine.f
  refine Ev.bind h1 (Ev.pos (by decide) (Ev.neg (by decide) (Ev.pos (by decide) (Ev.pos (by decide) ?_))))
  show Ev (fun k => (filtC k (ints [2, 3]) (allC 2 2 [[-1, 1]])).bind _) _
  rw [all23]
  refine Ev.bind h2 ?_
  show Ev (fun _ => (g_sort_Row.f [[-1, 1], [-2, 2]]).bind _) _
  rw [hsrt, Option.bind_some, hcmp]
  exact Ev.pure _
end Go.Proofs.YtobdccgpbohpiaaGreatDoor
set_option linter.unusedVariables false
set_option linter.unusedSimpArgs false
namespace Go.Proofs.YtobdccgpbohpiaaGreatDoor
open Go.RowKit Go.Lib F Go.Proofs.YtobdccgpbohpiaaGreatDoorW.PrintWords Go.Proofs.YtobdccgpbohpiaaGreatDoorW.PrintLast Go.Proofs.YtobdccgpbohpiaaGreatDoorW.PrintMore
def lessP (a b : List Int × S47) : Bool := decide (a.2.f0 * b.2.f1 < b.2.f0 * a.2.f1)
theorem lessP_nat {p : List Nat} {a b : List Int × S47} (ha : Isz p a) (hb : Isz p b) : lessP a b = true ↔ a.2.f0.toNat * b.2.f1.toNat < b.2.f0.toNat * a.2.f1.toNat := by
  unfold lessP
  rw [decide_eq_true_eq]
  have h1 := ha.n1; have h2 := ha.d1; have h3 := hb.n1; have h4 := hb.d1
  obtain ⟨n, hn⟩ := Int.eq_ofNat_of_zero_le (show 0 ≤ a.2.f0 by omega)
  obtain ⟨d, hd⟩ := Int.eq_ofNat_of_zero_le (show 0 ≤ a.2.f1 by omega)
  obtain ⟨n', hn'⟩ := Int.eq_ofNat_of_zero_le (show 0 ≤ b.2.f0 by omega)
  obtain ⟨d', hd'⟩ := Int.eq_ofNat_of_zero_le (show 0 ≤ b.2.f1 by omega)
  rw [hn, hd, hn', hd', Int.toNat_natCast, Int.toNat_natCast, Int.toNat_natCast, Int.toNat_natCast]
  rw [← Int.natCast_mul, ← Int.natCast_mul, Int.ofNat_lt]
def zRP : List Int × S47 := ([], z47)
end Go.Proofs.YtobdccgpbohpiaaGreatDoor
