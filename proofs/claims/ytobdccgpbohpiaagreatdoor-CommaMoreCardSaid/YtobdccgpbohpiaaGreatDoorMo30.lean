/- Mo: a part of the proof. -/
import Derived.Test.YtobdccgpbohpiaaGreatDoorMo23
import Derived.Test.YtobdccgpbohpiaaGreatDoorMo25
import Derived.Test.YtobdccgpbohpiaaGreatDoorMo29
set_option linter.unusedVariables false
set_option linter.unusedSimpArgs false
namespace Go.Proofs.YtobdccgpbohpiaaGreatDoor
open Go.RowKit Go.Lib F Go.Proofs.YtobdccgpbohpiaaGreatDoorW.PrintWords Go.Proofs.YtobdccgpbohpiaaGreatDoorW.PrintLast Go.Proofs.YtobdccgpbohpiaaGreatDoorW.PrintMore
theorem sorted_one' {α : Type} (lt : α → α → Prop) : ∀ (l m : List α), l.Perm m → l.Pairwise (fun a b => ¬ lt b a) → m.Pairwise lt → l = m
  | [], m, h, _, _ => (List.Perm.nil_eq h)
  | a :: l, [], h, _, _ => by have := h.length_eq; simp at this
  | a :: l, b :: m, h, h1, h2 => by
    have hab : a = b := by
      rw [List.pairwise_cons] at h1 h2
      rcases List.mem_cons.1 (h.mem_iff.1 List.mem_cons_self : a ∈ b :: m) with e | ha
      · exact e
      · rcases List.mem_cons.1 (h.mem_iff.2 List.mem_cons_self : b ∈ a :: l) with e | hb
        · exact e.symm
        · exact absurd (h2.1 a ha) (h1.1 b hb)
    subst hab
    rw [sorted_one' lt l m (List.Perm.cons_inv h) (List.pairwise_cons.1 h1).2 (List.pairwise_cons.1 h2).2]
def sz (p : List Nat) (r : List Int) : S95 := ⟨D (numN p r), D (denN p r), r⟩
theorem cmp_sz (p : List Nat) (r s : List Int) : cmpSized (sz p r) (sz p s) = cmpN (numN p r * denN p s) (numN p s * denN p r) := by
  unfold cmpSized sz
  rw [valB_D, valB_D, valB_D, valB_D]
def ltF (p : List Nat) (r s : List Int) : Prop := numN p r * denN p s < numN p s * denN p r
def lean9 (p : List Nat) (r : List Int) : Prop := nDigits (numN p r) ≤ 9 ∧ nDigits (denN p r) ≤ 9 ∧ 0 < denN p r
theorem sized_unique (p : List Nat) (rows rows' : List (List Int)) (h9 : ∀ r ∈ rows, lean9 p r) (hl : rows.length < 4611686018427387904) (hp : rows.Perm rows') (hs : rows'.Pairwise (ltF p)) : g_sort_sized.f (rows.map (sz p)) = some (rows'.map (sz p)) := by
  have hfit : fitSized (rows.map (sz p)) = true := by
    unfold fitSized
    rw [Bool.and_eq_true]
    refine ⟨decide_eq_true (by rw [List.length_map]; exact hl), List.all_eq_true.2 fun x hx => ?_⟩
    obtain ⟨r, hr, rfl⟩ := List.mem_map.1 hx
    obtain ⟨a, b, c⟩ := h9 r hr
    rw [Bool.and_eq_true, Bool.and_eq_true]
    exact ⟨⟨canon_D a, canon_D b⟩, decide_eq_true (by show 0 < valB (D _); rw [valB_D]; exact c)⟩
  have hO := sized_order (l := rows.map (sz p)) (fun x hx => by
    obtain ⟨r, hr, rfl⟩ := List.mem_map.1 hx
    show 0 < valB (D _)
    rw [valB_D]; exact (h9 r hr).2.2)
  unfold g_sort_sized.f
  rw [if_pos hfit]
  congr 1
  refine sorted_one' (fun a b => cmpSized a b < 0) _ _ ((sortL_perm cmpSized z95 _ hO).trans (hp.map _)) (sortL_sorted cmpSized z95 _ hO) ?_
  rw [List.pairwise_map]
  refine hs.imp (fun {a b} h => ?_)
  rw [cmp_sz, cmpN_lt]; exact h
theorem small_loop1 (xs : List S95) (hl : xs.length ≤ 100000) : ∀ (m i : Nat) (out : List (List Int)), i + m = xs.length → out.length ≤ i →
    Ev (fun k => comma_Smallest.l1 k out xs (xs.length : Int) (i : Int)) (out ++ (xs.drop i).map (fun x => x.f2), 0) := by
  intro m
  induction m with
  | zero =>
    intro i out hi ho
    rw [List.drop_eq_nil_of_le (by omega), List.map_nil, List.append_nil]
    refine Ev.succ (fun k => by rw [comma_Smallest.l1]) (Ev.neg ?_ (Ev.pure _))
    omega
  | succ m ih =>
    intro i out hi ho
    have hil : i < xs.length := by omega
    have e2 : rd_T95 xs (i : Int) = xs[i] := by
      unfold rd_T95
      rw [Int.toNat_natCast, List.getD_eq_getElem?_getD, List.getElem?_eq_getElem hil]; rfl
    have h3 := ih (i + 1) (out ++ [(xs[i]).f2]) (by omega) (by rw [List.length_append, List.length_singleton]; omega)
    refine Ev.succ (fun k => by rw [comma_Smallest.l1]) ?_
    rw [e2, w64n (by omega), List.drop_eq_getElem_cons hil, List.map_cons]
    refine Ev.pos (by omega) (Ev.pos (by omega) (Ev.pos (by omega) (Ev.pos (by omega) ?_)))
    rw [List.append_assoc, List.singleton_append] at h3
    exact h3
theorem small_loop0 {p : List Nat} (hp : p ∈ PL) (c : Nat) (rows : List (List Int)) (hr : ∀ r ∈ rows, Few p r) (hl : rows.length ≤ 100000) (H : Int) (x : List Int) (srt : List S95) (hs : g_sort_sized.f (rows.map (sz p)) = some srt) (hsl : srt.length = rows.length) : ∀ (m i : Nat), i + m = rows.length →
    Ev (fun k => comma_Smallest.l0 k (c : Int) ((rows.take i).map (sz p)) rows (rows.length : Int) (i : Int) (ints p) H x) ((srt.take c).map (fun x => x.f2), 0) := by
  intro m
  induction m with
  | zero =>
    intro i hi
    have : i = rows.length := by omega
    subst this
    rw [List.take_length]
    refine Ev.succ (fun k => by rw [comma_Smallest.l0]) (Ev.neg (by omega) (Ev.bind (Ev.const hs) ?_))
    rw [List.length_map]
    have e1 : (mn (c : Int) (rows.length : Int)) = ((min c rows.length : Nat) : Int) := by unfold mn; split <;> omega
    rw [e1, Int.toNat_natCast]
    refine Ev.pos (by omega) (Ev.pos (by omega) (Ev.bind (Ev.pure _) ?_))
    have e2 : srt.take (min c rows.length) = srt.take c := by
      by_cases h : c ≤ rows.length
      · rw [Nat.min_eq_left h]
      · rw [Nat.min_eq_right (by omega), List.take_of_length_le (by omega), List.take_of_length_le (by omega)]
    rw [e2]
    have := small_loop1 (srt.take c) (by rw [List.length_take]; omega) _ 0 [] (Nat.zero_add _) (Nat.le_refl _)
    rw [List.drop_zero, List.nil_append] at this
    exact this
  | succ m ih =>
    intro i hi
    have hil : i < rows.length := by omega
    have h3 := ih (i + 1) (by omega)
    rw [List.take_succ_eq_append_getElem hil, List.map_append] at h3
    refine Ev.succ (fun k => by rw [comma_Smallest.l0]) ?_
    rw [rdL1_at hil, w64n (by omega)]
    exact Ev.pos (by omega) (Ev.pos (by omega) (Ev.pos (by omega) (Ev.bind (sides_ev p _ ((hr _ (List.getElem_mem hil)).fits hp)).1 (Ev.pos (by rw [List.length_map, List.length_take]; omega) h3))))
def pairB (p : List Nat) : Bool := (EL p 130).all fun a => (EL p 130).all fun b => !(Nat.gcd a.f0.toNat b.f0.toNat == 1) || (numN p (subL a.f1 b.f1) == a.f0.toNat && denN p (subL a.f1 b.f1) == b.f0.toNat)
theorem pairB_PL : PL.all pairB = true := by kernel_rfl
structure Isz (p : List Nat) (q : List Int × S47) : Prop where
  n1 : 1 ≤ q.2.f0 ∧ q.2.f0 ≤ 130
  d1 : 1 ≤ q.2.f1 ∧ q.2.f1 ≤ 130
  num : numN p q.1 = q.2.f0.toNat
  den : denN p q.1 = q.2.f1.toNat
  cop : Nat.gcd q.2.f0.toNat q.2.f1.toNat = 1
  few : Few p q.1
theorem inL_isz {p : List Nat} (hp : p ∈ PL) {N De : Nat} (a : S83) (ha : a ∈ EL p 130) : ∀ m, m ≤ 130 → ∀ q ∈ inL p N De a m, Isz p q ∧ q.2.f0 = a.f0 ∧ q.2.f1 ≤ m
  | 0, _, q, hq => by simp [inL] at hq
  | m + 1, hm, q, hq => by
    rw [inL] at hq
    rcases List.mem_append.1 hq with hq | hq
    · have := inL_isz hp a ha m (by omega) q hq
      exact ⟨this.1, this.2.1, by omega⟩
    · split at hq
      · rename_i hc
        obtain ⟨hs, hg, hle⟩ := hc
        rw [List.mem_singleton.1 hq]
        have hb := ex_mem (n := m + 1) (H := 130) (by omega) hm hs
        have h0 := EL_f0 p 130 a ha
        have h1 := EL_sane hp (Nat.le_refl 130) a ha
        have h2 := EL_sane hp (Nat.le_refl 130) _ hb
        have h3 := List.all_eq_true.1 (List.all_eq_true.1 (List.all_eq_true.1 pairB_PL p hp) a ha) _ hb
        rw [Int.toNat_natCast, hg, beq_self_eq_true, Bool.not_true, Bool.false_or, Bool.and_eq_true, beq_iff_eq, beq_iff_eq] at h3
        refine ⟨⟨⟨h0.1, h0.2⟩, ⟨?_, ?_⟩, h3.1, ?_, ?_, ⟨?_, ?_⟩⟩, rfl, Int.le_refl _⟩
        · show (1 : Int) ≤ ((m + 1 : Nat) : Int); omega
        · show ((m + 1 : Nat) : Int) ≤ 130; omega
        · show _ = ((m + 1 : Nat) : Int).toNat
          rw [Int.toNat_natCast]; exact h3.2
        · show Nat.gcd _ ((m + 1 : Nat) : Int).toNat = 1
          rw [Int.toNat_natCast]; exact hg
        · show (subL a.f1 _).length = _
          have e1 := h1.1
          have e2 : (ex p (m + 1)).1.length = p.length := h2.1
          unfold subL
          rw [List.length_zipWith]; omega
        · intro n hn
          have e3 : ∀ n ∈ (ex p (m + 1)).1, 0 ≤ n ∧ n ≤ 7 := h2.2
          have hn' : n ∈ subL a.f1 (ex p (m + 1)).1 := hn
          unfold subL at hn'
          rw [List.mem_iff_getElem] at hn'
          obtain ⟨i, hi, rfl⟩ := hn'
          rw [List.getElem_zipWith]
          rw [List.length_zipWith] at hi
          have g1 := h1.2 _ (List.getElem_mem (by omega : i < a.f1.length))
          have g2 := e3 _ (List.getElem_mem (by omega : i < (ex p (m + 1)).1.length))
          rw [wrap64_id (by omega)]; omega
      · simp at hq
theorem law_isz {p : List Nat} (hp : p ∈ PL) {N De : Nat} : ∀ m, m ≤ 130 → ∀ q ∈ law p N De m, Isz p q ∧ q.2.f0 ≤ m
  | 0, _, q, hq => by simp [law] at hq
  | m + 1, hm, q, hq => by
    rw [law] at hq
    rcases List.mem_append.1 hq with hq | hq
    · have := law_isz hp m (by omega) q hq
      exact ⟨this.1, by omega⟩
    · split at hq
      · rename_i hs
        have := inL_isz hp _ (ex_mem (n := m + 1) (H := 130) (by omega) hm hs) m (by omega) q hq
        exact ⟨this.1, by rw [this.2.1]; exact Int.le_refl _⟩
      · simp at hq
theorem spec_few {p : List Nat} (hp : p ∈ PL) {N De H : Nat} (h : H ≤ 130) : ∀ r ∈ spec p N De H, Few p r ∧ lean9 p r := fun r hr => by
  rw [← law_spec hp H h] at hr
  obtain ⟨q, hq, rfl⟩ := List.mem_map.1 hr
  have hi := (law_isz hp H h q hq).1
  have h1 := hi.n1
  have h2 := hi.d1
  refine ⟨hi.few, ?_, ?_, ?_⟩
  · rw [hi.num]; exact Nat.le_trans (digits_130 (by omega)) (by omega)
  · rw [hi.den]; exact Nat.le_trans (digits_130 (by omega)) (by omega)
  · rw [hi.den]; omega
theorem spec_length {p : List Nat} (hp : p ∈ PL) {N De H : Nat} (h : H ≤ 130) : (spec p N De H).length ≤ 20000 := by
  rw [← law_spec hp H h, List.length_map]
  have := law_length (p := p) (N := N) (De := De) H h
  omega
theorem smallest_ev {p : List Nat} (hp : p ∈ PL) {x : List Int} (h : Few p x) {H : Nat} (h1 : 1 ≤ H) (h2 : H ≤ 130) (hg : denN p x < numN p x) (c : Nat) (hc : c ≤ 100) (rows' : List (List Int)) (hpm : (spec p (numN p x) (denN p x) H).Perm rows') (hs : rows'.Pairwise (ltF p)) :
    Ev (fun k => comma_Smallest.f k (ints p) (H : Int) x (c : Int)) (rows'.take c, 0) := by
  have hfew := fun r hr => (spec_few hp (N := numN p x) (De := denN p x) h2 r hr).1
  have hl := spec_length hp (N := numN p x) (De := denN p x) h2
  have hsrt := sized_unique p _ rows' (fun r hr => (spec_few hp h2 r hr).2) (by omega) hpm hs
  have hlen : (rows'.map (sz p)).length = (spec p (numN p x) (denN p x) H).length := by rw [List.length_map, hpm.length_eq]
  unfold comma_Smallest.f
  refine Ev.bind (check_ev hp h h1 h2 hg) (Ev.pos rfl (Ev.neg (by omega) ?_))
  rw [decide_eq_false (by omega : ¬ (c : Int) > 100)]
  refine Ev.succ (fun k => by rw [comma_Smallest.j0]) (Ev.neg (by decide) (Ev.bind (list_ev hp h h1 h2 hg) (Ev.pos rfl ?_)))
  have := small_loop0 hp c _ hfew (by omega) (H : Int) x _ hsrt hlen (spec p (numN p x) (denN p x) H).length 0 (by omega)
  rw [List.take_zero, List.map_nil, ← List.map_take, List.map_map] at this
  have e : ((fun x : S95 => x.f2) ∘ sz p) = id := rfl
  rw [e, List.map_id] at this
  exact this
theorem filt_ev {p : List Nat} (hp : p ∈ PL) : ∀ (l : List (List Int)), (∀ r ∈ l, Few p r) → Ev (fun k => filtC k (ints p) l) (some (l.filter fun r => decide (denN p r < numN p r)))
  | [], _ => Ev.pure _
  | x :: t, h => by
    have ih := filt_ev hp t (fun r hr => h r (List.mem_cons_of_mem _ hr))
    have hs := sign_ev hp (h x List.mem_cons_self)
    obtain ⟨k1, h1⟩ := ih
    obtain ⟨k2, h2⟩ := hs
    refine ⟨max k1 k2, fun k hk => ?_⟩
    show filtC k (ints p) (x :: t) = _
    have e1 : filtC k (ints p) t = _ := h1 k (by omega)
    have e2 : monzo_Sign.f k (ints p) x = _ := h2 k (by omega)
    rw [filtC, e2, Option.bind_some, if_pos rfl, e1]
    by_cases hc : denN p x < numN p x
    · rw [List.filter_cons_of_pos (by simpa using hc)]
      show some (some (if cmpN (numN p x) (denN p x) > 0 then _ else _)) = _
      rw [if_pos ((cmpN_pos _ _).2 hc)]
    · rw [List.filter_cons_of_neg (by simpa using hc)]
      show some (some (if cmpN (numN p x) (denN p x) > 0 then _ else _)) = _
      rw [if_neg (fun hh => hc ((cmpN_pos _ _).1 hh))]
theorem rowOrder (l : List (List Int)) : ∀ x ∈ l, ∀ y ∈ l, ∀ q ∈ l, ¬ cmpRow x x < 0 ∧ (cmpRow x y < 0 → cmpRow y q < 0 → cmpRow x q < 0) ∧ (¬ cmpRow x y < 0 → ¬ cmpRow y q < 0 → ¬ cmpRow x q < 0) :=
  fun x _ y _ q _ => ⟨by rw [cmpRow_self]; omega, cmpRow_order x y q⟩
theorem few235 : Few [2, 3, 5] [-2, 0, 1] := ⟨rfl, by decide⟩
theorem spec235 : spec [2, 3, 5] 5 4 10 = [[-2, 0, 1], [1, 1, -1], [-3, 2, 0], [1, -2, 1]] := by kernel_rfl
theorem in235 : [2, 3, 5] ∈ PL := by decide
theorem ex1 : Ev (fun k => comma_List.f k [2, 3, 5] 10 [-2, 0, 1]) ([[-2, 0, 1], [1, 1, -1], [-3, 2, 0], [1, -2, 1]], 0) := by
  have := list_ev in235 few235 (H := 10) (by omega) (by omega) (by decide)
  rw [← spec235]
  exact this
theorem ex2 : Ev (fun k => comma_Smallest.f k [2, 3, 5] 10 [-2, 0, 1] 2) ([[1, -2, 1], [-3, 2, 0]], 0) := by
  have := smallest_ev in235 few235 (H := 10) (by omega) (by omega) (by decide) 2 (by omega) [[1, -2, 1], [-3, 2, 0], [1, 1, -1], [-2, 0, 1]] (by
    show (spec [2, 3, 5] 5 4 10).Perm _
    rw [spec235]
    decide) (by unfold ltF; decide)
  exact this
theorem all23 : allC 2 2 [[-1, 1]] = [[2, -2], [1, -1], [0, 0], [-1, 1], [-2, 2]] := by kernel_rfl
theorem ex3 : Ev (fun k => g_Combine.f k [2, 3] [[-1, 1]] 2) ([[-2, 2], [-1, 1]], 0) := by
  have hp : [2, 3] ∈ PL := by decide
  have h1 := checkAll_ev hp [[-1, 1]] (by decide) (by decide)
  have h2 := filt_ev hp [[2, -2], [1, -1], [0, 0], [-1, 1], [-2, 2]] (fun r hr => by
    have : ∀ r ∈ ([[2, -2], [1, -1], [0, 0], [-1, 1], [-2, 2]] : List (List Int)), r.length = 2 ∧ ∀ n ∈ r, -1000 ≤ n ∧ n ≤ 1000 := by decide
    exact ⟨(this r hr).1, (this r hr).2⟩)
  have hsrt : g_sort_Row.f [[-1, 1], [-2, 2]] = some [[-2, 2], [-1, 1]] := by
    unfold g_sort_Row.f
    rw [if_pos (by decide)]
    congr 1
    exact sorted_one' (fun a b => cmpRow a b < 0) _ _ ((sortL_perm cmpRow [] _ (rowOrder _)).trans (by decide)) (sortL_sorted cmpRow [] _ (rowOrder _)) (by decide)
  have hcmp : g_compact_Row.f [[-2, 2], [-1, 1]] = some [[-2, 2], [-1, 1]] := by decide
  unfold g_Combine.f
  refine Ev.bind h1 (Ev.pos (by decide) (Ev.neg (by decide) (Ev.pos (by decide) (Ev.pos (by decide) ?_))))
  show Ev (fun k => (filtC k (ints [2, 3]) (allC 2 2 [[-1, 1]])).bind _) _
  rw [all23]
  refine Ev.bind h2 ?_
  show Ev (fun _ => (g_sort_Row.f [[-1, 1], [-2, 2]]).bind _) _
  rw [hsrt, Option.bind_some, hcmp]
  exact Ev.pure _
end Go.Proofs.YtobdccgpbohpiaaGreatDoor
set_option linter.unusedVariables false
set_option linter.unusedSimpArgs false
namespace Go.Proofs.YtobdccgpbohpiaaGreatDoor
open Go.RowKit Go.Lib F Go.Proofs.YtobdccgpbohpiaaGreatDoorW.PrintWords Go.Proofs.YtobdccgpbohpiaaGreatDoorW.PrintLast Go.Proofs.YtobdccgpbohpiaaGreatDoorW.PrintMore
section
variable {α β : Type}
def swp (z : α) (l : List α) (k : Nat) : List α := (l.set k (l.getD (k - 1) z)).set (k - 1) (l.getD k z)
def insG (le : α → α → Bool) (z : α) : Nat → List α → List α
  | 0, l => l
  | k + 1, l => if le (l.getD (k + 1) z) (l.getD k z) = true then insG le z k (swp z l (k + 1)) else l
def srtG (le : α → α → Bool) (z : α) : Nat → List α → List α
  | 0, l => l
  | m + 1, l => insG le z (m + 1) (srtG le z m l)
def insR (le : α → α → Bool) (x : α) : List α → List α
  | [] => [x]
  | b :: t => if le x b = true then insR le x t ++ [b] else (b :: t).reverse ++ [x]
theorem swp_length (z : α) (l : List α) (k : Nat) : (swp z l k).length = l.length := by unfold swp; rw [List.length_set, List.length_set]
theorem insG_length (le : α → α → Bool) (z : α) : ∀ (k : Nat) (l : List α), (insG le z k l).length = l.length
  | 0, l => rfl
  | k + 1, l => by
    rw [insG]
    split
    · rw [insG_length le z k, swp_length]
    · rfl
theorem srtG_length (le : α → α → Bool) (z : α) : ∀ (m : Nat) (l : List α), (srtG le z m l).length = l.length
  | 0, l => rfl
  | m + 1, l => by rw [srtG, insG_length, srtG_length le z m l]
theorem swp_at (z : α) (t : List α) (b x : α) (post : List α) : swp z (t.reverse ++ b :: x :: post) (t.length + 1) = t.reverse ++ x :: b :: post := by
  unfold swp
  have h0 : t.reverse.length = t.length := List.length_reverse
  rw [Nat.add_sub_cancel]
  have e1 : (t.reverse ++ b :: x :: post).getD t.length z = b := by rw [List.getD_eq_getElem?_getD, List.getElem?_append_right (by omega), h0, Nat.sub_self]; rfl
  have e2 : (t.reverse ++ b :: x :: post).getD (t.length + 1) z = x := by rw [List.getD_eq_getElem?_getD, List.getElem?_append_right (by omega), h0, Nat.add_sub_cancel_left]; rfl
  rw [e1, e2, List.set_append_right _ _ (by omega), h0, Nat.add_sub_cancel_left, List.set_append_right _ _ (by omega), h0, Nat.sub_self]
  rfl
theorem insG_eq (le : α → α → Bool) (z : α) : ∀ (r : List α) (x : α) (post : List α), insG le z r.length (r.reverse ++ x :: post) = insR le x r ++ post
  | [], x, post => rfl
  | b :: t, x, post => by
    have h0 : t.reverse.length = t.length := List.length_reverse
    have hl : (b :: t).reverse ++ x :: post = t.reverse ++ b :: x :: post := by rw [List.reverse_cons, List.append_assoc]; rfl
    rw [hl, List.length_cons, insG, insR]
    have e1 : (t.reverse ++ b :: x :: post).getD t.length z = b := by rw [List.getD_eq_getElem?_getD, List.getElem?_append_right (by omega), h0, Nat.sub_self]; rfl
    have e2 : (t.reverse ++ b :: x :: post).getD (t.length + 1) z = x := by rw [List.getD_eq_getElem?_getD, List.getElem?_append_right (by omega), h0, Nat.add_sub_cancel_left]; rfl
    rw [e1, e2, swp_at]
    split
    · rw [insG_eq le z t x (b :: post), List.append_assoc]; rfl
    · rw [← hl, List.append_assoc]; rfl
theorem insR_perm (le : α → α → Bool) (x : α) : ∀ r : List α, (insR le x r).Perm (x :: r)
  | [] => List.Perm.refl _
  | b :: t => by
    rw [insR]
    split
    · exact ((insR_perm le x t).append_right [b]).trans (List.Perm.cons x (List.perm_append_singleton b t))
    · exact (List.perm_append_singleton x _).trans (List.Perm.cons x (List.reverse_perm _))
theorem insR_sorted (le : α → α → Bool) (x : α) : ∀ r : List α, r.Pairwise (fun a b => le b a = true) → (∀ a ∈ r, ∀ b ∈ r, le a b = true → le b x = true → le a x = true) → (∀ b ∈ r, le x b = true ∨ le b x = true) → (insR le x r).Pairwise fun a b => le a b = true
  | [], _, _, _ => List.pairwise_singleton _ _
  | b :: t, h, ht, hc => by
    have h1 := List.pairwise_cons.1 h
    rw [insR]
    split
    · rename_i hx
      rw [List.pairwise_append]
      refine ⟨insR_sorted le x t h1.2 (fun a ha c hb => ht a (List.mem_cons_of_mem _ ha) c (List.mem_cons_of_mem _ hb)) (fun c hb => hc c (List.mem_cons_of_mem _ hb)), List.pairwise_singleton _ _, fun a ha c hcm => ?_⟩
      rw [List.mem_singleton.1 hcm]
      rcases List.mem_cons.1 ((insR_perm le x t).mem_iff.1 ha) with rfl | ha
      · exact hx
      · exact h1.1 a ha
    · rename_i hx
      have hbx : le b x = true := (hc b List.mem_cons_self).resolve_left hx
      rw [List.pairwise_append]
      refine ⟨List.pairwise_reverse.2 h, List.pairwise_singleton _ _, fun a ha c hcm => ?_⟩
      rw [List.mem_singleton.1 hcm]
      rcases List.mem_cons.1 (List.mem_reverse.1 ha) with rfl | ha
      · exact hbx
      · exact ht a (List.mem_cons_of_mem _ ha) b List.mem_cons_self (h1.1 a ha) hbx
theorem srtG_ok (le : α → α → Bool) (z : α) (l : List α) (htr : ∀ a ∈ l, ∀ b ∈ l, ∀ c ∈ l, le a b = true → le b c = true → le a c = true) (hne : l.Pairwise fun a b => le a b = true ∨ le b a = true) : ∀ m, m < l.length →
    (srtG le z m l).Perm l ∧ ((srtG le z m l).take (m + 1)).Pairwise fun a b => le a b = true
  | 0, h => by
    refine ⟨List.Perm.refl _, ?_⟩
    show (l.take 1).Pairwise _
    match l, h with
    | a :: t, _ => exact List.pairwise_singleton _ _
  | m + 1, h => by
    obtain ⟨h1, h2⟩ := srtG_ok le z l htr hne m (by omega)
    have hl := srtG_length le z m l
    rw [srtG]
    generalize srtG le z m l = u at h1 h2 hl
    have hml : m + 1 < u.length := by omega
    have hu : u = ((u.take (m + 1)).reverse).reverse ++ u[m + 1] :: u.drop (m + 2) := by
      rw [List.reverse_reverse, ← List.drop_eq_getElem_cons hml, List.take_append_drop]
    have hrl : ((u.take (m + 1)).reverse).length = m + 1 := by rw [List.length_reverse, List.length_take]; omega
    have key := insG_eq le z (u.take (m + 1)).reverse u[m + 1] (u.drop (m + 2))
    rw [← hu, hrl] at key
    rw [key]
    have hmem : ∀ a ∈ (u.take (m + 1)).reverse, a ∈ u := fun a ha => List.mem_of_mem_take (List.mem_reverse.1 ha)
    have hcmp : u.Pairwise fun a b => le a b = true ∨ le b a = true := (h1.pairwise_iff (fun h => h.symm)).2 hne
    have hx : ∀ b ∈ (u.take (m + 1)).reverse, le u[m + 1] b = true ∨ le b u[m + 1] = true := fun b hb => by
      have hb' := List.mem_reverse.1 hb
      rw [← List.take_append_drop (m + 1) u, List.pairwise_append] at hcmp
      exact (hcmp.2.2 b hb' u[m + 1] (by rw [List.drop_eq_getElem_cons hml]; exact List.mem_cons_self)).symm
    have hp := insR_perm le u[m + 1] (u.take (m + 1)).reverse
    have hs := insR_sorted le u[m + 1] (u.take (m + 1)).reverse (List.pairwise_reverse.2 h2) (fun a ha b hb => htr a (h1.mem_iff.1 (hmem a ha)) b (h1.mem_iff.1 (hmem b hb)) u[m + 1] (h1.mem_iff.1 (List.getElem_mem hml))) hx
    have hil : (insR le u[m + 1] (u.take (m + 1)).reverse).length = m + 2 := by rw [hp.length_eq, List.length_cons, hrl]
    refine ⟨?_, ?_⟩
    · refine ((hp.append_right _).trans ?_).trans h1
      conv => rhs; rw [hu]
      rw [List.reverse_reverse, List.cons_append]
      exact (List.Perm.cons _ ((List.reverse_perm _).append_right _)).trans List.perm_middle.symm
    · rw [List.take_append_of_le_length (by omega), List.take_of_length_le (by omega)]
      exact hs
end
def lessP (a b : List Int × S47) : Bool := decide (a.2.f0 * b.2.f1 < b.2.f0 * a.2.f1)
theorem lessP_nat {p : List Nat} {a b : List Int × S47} (ha : Isz p a) (hb : Isz p b) : lessP a b = true ↔ a.2.f0.toNat * b.2.f1.toNat < b.2.f0.toNat * a.2.f1.toNat := by
  unfold lessP
  rw [decide_eq_true_eq]
  have h1 := ha.n1; have h2 := ha.d1; have h3 := hb.n1; have h4 := hb.d1
  obtain ⟨n, hn⟩ := Int.eq_ofNat_of_zero_le (show 0 ≤ a.2.f0 by omega)
  obtain ⟨d, hd⟩ := Int.eq_ofNat_of_zero_le (show 0 ≤ a.2.f1 by omega)
  obtain ⟨n', hn'⟩ := Int.eq_ofNat_of_zero_le (show 0 ≤ b.2.f0 by omega)
  obtain ⟨d', hd'⟩ := Int.eq_ofNat_of_zero_le (show 0 ≤ b.2.f1 by omega)
  rw [hn, hd, hn', hd', Int.toNat_natCast, Int.toNat_natCast, Int.toNat_natCast, Int.toNat_natCast]
  rw [← Int.natCast_mul, ← Int.natCast_mul, Int.ofNat_lt]
theorem lessP_trans {p : List Nat} {a b c : List Int × S47} (ha : Isz p a) (hb : Isz p b) (hc : Isz p c) (h1 : lessP a b = true) (h2 : lessP b c = true) : lessP a c = true := by
  rw [lessP_nat ha hb] at h1
  rw [lessP_nat hb hc] at h2
  rw [lessP_nat ha hc]
  have := ha.d1; have := hb.d1; have := hc.d1
  exact frac_trans (by omega) (by omega) (by omega) h1 h2
theorem lessP_total {p : List Nat} {a b : List Int × S47} (ha : Isz p a) (hb : Isz p b) (hne : ¬ (a.2.f0 = b.2.f0 ∧ a.2.f1 = b.2.f1)) : lessP a b = true ∨ lessP b a = true := by
  rw [lessP_nat ha hb, lessP_nat hb ha]
  by_cases h : a.2.f0.toNat * b.2.f1.toNat = b.2.f0.toNat * a.2.f1.toNat
  · exfalso
    have h1 := ha.n1; have h2 := ha.d1; have h3 := hb.n1; have h4 := hb.d1
    have d1 : a.2.f0.toNat ∣ b.2.f0.toNat := (Nat.Coprime.dvd_of_dvd_mul_right (show Nat.Coprime a.2.f0.toNat a.2.f1.toNat from ha.cop) ⟨b.2.f1.toNat, h.symm⟩)
    have d2 : b.2.f0.toNat ∣ a.2.f0.toNat := (Nat.Coprime.dvd_of_dvd_mul_right (show Nat.Coprime b.2.f0.toNat b.2.f1.toNat from hb.cop) ⟨a.2.f1.toNat, h⟩)
    have e1 := Nat.dvd_antisymm d1 d2
    rw [e1] at h
    have e2 := Nat.eq_of_mul_eq_mul_left (by omega) h
    exact hne ⟨by omega, by omega⟩
  · omega
theorem inL_pairs (p : List Nat) (N De : Nat) (a : S83) : ∀ m, (inL p N De a m).Pairwise (fun q q' => q.2.f1 < q'.2.f1) ∧ ∀ q ∈ inL p N De a m, q.2.f1 ≤ m
  | 0 => ⟨List.Pairwise.nil, fun q hq => by simp [inL] at hq⟩
  | m + 1 => by
    obtain ⟨h1, h2⟩ := inL_pairs p N De a m
    rw [inL]
    split
    · refine ⟨?_, fun q hq => ?_⟩
      · rw [List.pairwise_append]
        refine ⟨h1, List.pairwise_singleton _ _, fun q hq q' hq' => ?_⟩
        rw [List.mem_singleton.1 hq']
        have := h2 q hq
        show q.2.f1 < ((m + 1 : Nat) : Int)
        omega
      · rcases List.mem_append.1 hq with hq | hq
        · have := h2 q hq; omega
        · rw [List.mem_singleton.1 hq]; exact Int.le_refl _
    · rw [List.append_nil]
      exact ⟨h1, fun q hq => by have := h2 q hq; omega⟩
theorem law_pairs {p : List Nat} (hp : p ∈ PL) {N De : Nat} : ∀ m, m ≤ 130 → (law p N De m).Pairwise fun q q' => ¬ (q.2.f0 = q'.2.f0 ∧ q.2.f1 = q'.2.f1)
  | 0, _ => List.Pairwise.nil
  | m + 1, hm => by
    rw [law]
    split
    · rename_i hs
      rw [List.pairwise_append]
      refine ⟨law_pairs hp m (by omega), (inL_pairs p N De _ m).1.imp (fun {q q'} h => by omega), fun q hq q' hq' => ?_⟩
      have h1 := (law_isz hp m (by omega) q hq).2
      have h2 := (inL_isz hp _ (ex_mem (n := m + 1) (H := 130) (by omega) hm hs) m (by omega) q' hq').2.1
      have h3 : q'.2.f0 = ((m + 1 : Nat) : Int) := h2
      omega
    · rw [List.append_nil]; exact law_pairs hp m (by omega)
def zRP : List Int × S47 := ([], z47)
def bySize (l : List (List Int × S47)) : List (List Int × S47) := srtG lessP zRP (l.length - 1) l
theorem bySize_ok {p : List Nat} (hp : p ∈ PL) {N De H : Nat} (h : H ≤ 130) : (bySize (law p N De H)).Perm (law p N De H) ∧ ((bySize (law p N De H)).map Prod.fst).Pairwise (ltF p) := by
  have hi := fun q hq => (law_isz hp (N := N) (De := De) H h q hq).1
  have hd := law_pairs hp (N := N) (De := De) H h
  generalize law p N De H = l at hi hd
  unfold bySize
  by_cases hl : l.length = 0
  · rw [List.eq_nil_of_length_eq_zero hl]
    exact ⟨List.Perm.refl _, List.Pairwise.nil⟩
  · have hc : l.Pairwise fun a b => lessP a b = true ∨ lessP b a = true := by
      refine List.Pairwise.imp_of_mem (fun {a b} ha hb hne => lessP_total (hi a ha) (hi b hb) hne) hd
    obtain ⟨h1, h2⟩ := srtG_ok lessP zRP l (fun a ha b hb c hc => lessP_trans (hi a ha) (hi b hb) (hi c hc)) hc (l.length - 1) (by omega)
    refine ⟨h1, ?_⟩
    rw [List.take_of_length_le (by rw [srtG_length]; omega)] at h2
    rw [List.pairwise_map]
    refine List.Pairwise.imp_of_mem (fun {a b} ha hb hlt => ?_) h2
    have ia := hi a (h1.mem_iff.1 ha)
    have ib := hi b (h1.mem_iff.1 hb)
    unfold ltF
    rw [ia.num, ia.den, ib.num, ib.den]
    exact (lessP_nat ia ib).1 hlt
end Go.Proofs.YtobdccgpbohpiaaGreatDoor
