/- Ch: a part of the proof. -/
import Derived.Test.YtobdccgpbohpiaaGreatDoorCh23
import Derived.Test.YtobdccgpbohpiaaGreatDoorCh26
import Derived.Test.YtobdccgpbohpiaaGreatDoorCh30
set_option linter.unusedVariables false
set_option linter.unusedSimpArgs false
namespace Go.Proofs.YtobdccgpbohpiaaGreatDoor
open Go.RowKit Go.Lib F Go.Proofs.YtobdccgpbohpiaaGreatDoorW.PrintWords Go.Proofs.YtobdccgpbohpiaaGreatDoorW.PrintLast Go.Proofs.YtobdccgpbohpiaaGreatDoorW.PrintMore
theorem sorted_one' {α : Type} (lt : α → α → Prop) : ∀ (l m : List α), l.Perm m → l.Pairwise (fun a b => ¬ lt b a) → m.Pairwise lt → l = m
  | [], m, h, _, _ => (List.Perm.nil_eq h)
  | a :: l, [], h, _, _ => by have := h.length_eq; simp at this
  | a :: l, b :: m, h, h1, h2 => by
    have hab : a = b := by
      rw [List.pairwise_cons] at h1 h2
      rcases List.mem_cons.1 (h.mem_iff.1 List.mem_cons_self : a ∈ b :: m) with e | ha
      · exact e
      · rcases List.mem_cons.1 (h.mem_iff.2 List.mem_cons_self : b ∈ a :: l) with e | hb
        · exact e.symm
        · exact absurd (h2.1 a ha) (h1.1 b hb)
    subst hab
    rw [sorted_one' lt l m (List.Perm.cons_inv h) (List.pairwise_cons.1 h1).2 (List.pairwise_cons.1 h2).2]
def sz (p : List Nat) (r : List Int) : S95 := ⟨D (numN p r), D (denN p r), r⟩
theorem cmp_sz (p : List Nat) (r s : List Int) : cmpSized (sz p r) (sz p s) = cmpN (numN p r * denN p s) (numN p s * denN p r) := by
  unfold cmpSized sz
  rw [valB_D, valB_D, valB_D, valB_D]
def ltF (p : List Nat) (r s : List Int) : Prop := numN p r * denN p s < numN p s * denN p r
def lean9 (p : List Nat) (r : List Int) : Prop := nDigits (numN p r) ≤ 9 ∧ nDigits (denN p r) ≤ 9 ∧ 0 < denN p r
theorem sized_unique (p : List Nat) (rows rows' : List (List Int)) (h9 : ∀ r ∈ rows, lean9 p r) (hl : rows.length < 4611686018427387904) (hp : rows.Perm rows') (hs : rows'.Pairwise (ltF p)) : g_sort_sized.f (rows.map (sz p)) = some (rows'.map (sz p)) := by
  have hfit : fitSized (rows.map (sz p)) = true := by
    unfold fitSized
    rw [Bool.and_eq_true]
    refine ⟨decide_eq_true (by rw [List.length_map]; exact hl), List.all_eq_true.2 fun x hx => ?_⟩
    obtain ⟨r, hr, rfl⟩ := List.mem_map.1 hx
    obtain ⟨a, b, c⟩ := h9 r hr
    rw [Bool.and_eq_true, Bool.and_eq_true]
    exact ⟨⟨canon_D a, canon_D b⟩, decide_eq_true (by show 0 < valB (D _); rw [valB_D]; exact c)⟩
  have hO := sized_order (l := rows.map (sz p)) (fun x hx => by
    obtain ⟨r, hr, rfl⟩ := List.mem_map.1 hx
    show 0 < valB (D _)
    rw [valB_D]; exact (h9 r hr).2.2)
  unfold g_sort_sized.f
  rw [if_pos hfit]
  congr 1
  refine sorted_one' (fun a b => cmpSized a b < 0) _ _ ((sortL_perm cmpSized z95 _ hO).trans (hp.map _)) (sortL_sorted cmpSized z95 _ hO) ?_
  rw [List.pairwise_map]
  refine hs.imp (fun {a b} h => ?_)
  rw [cmp_sz, cmpN_lt]; exact h
theorem small_loop1 (xs : List S95) (hl : xs.length ≤ 100000) : ∀ (m i : Nat) (out : List (List Int)), i + m = xs.length → out.length ≤ i →
    Ev (fun k => comma_Smallest.l1 k out xs (xs.length : Int) (i : Int)) (out ++ (xs.drop i).map (fun x => x.f2), 0) := by
  intro m
  induction m with
  | zero =>
    intro i out hi ho
    rw [List.drop_eq_nil_of_le (by omega), List.map_nil, List.append_nil]
    refine Ev.succ (fun k => by rw [comma_Smallest.l1]) (Ev.neg ?_ (Ev.pure _))
    omega
  | succ m ih =>
    intro i out hi ho
    have hil : i < xs.length := by omega
    have e2 : rd_T95 xs (i : Int) = xs[i] := by
      unfold rd_T95
      rw [Int.toNat_natCast, List.getD_eq_getElem?_getD, List.getElem?_eq_getElem hil]; rfl
    have h3 := ih (i + 1) (out ++ [(xs[i]).f2]) (by omega) (by rw [List.length_append, List.length_singleton]; omega)
    refine Ev.succ (fun k => by rw [comma_Smallest.l1]) ?_
    rw [e2, w64n (by omega), List.drop_eq_getElem_cons hil, List.map_cons]
    refine Ev.pos (by omega) (Ev.pos (by omega) (Ev.pos (by omega) (Ev.pos (by omega) ?_)))
    rw [List.append_assoc, List.singleton_append] at h3
    exact h3
theorem small_loop0 {p : List Nat} (hp : p ∈ PL) (c : Nat) (rows : List (List Int)) (hr : ∀ r ∈ rows, Few p r) (hl : rows.length ≤ 100000) (H : Int) (x : List Int) (srt : List S95) (hs : g_sort_sized.f (rows.map (sz p)) = some srt) (hsl : srt.length = rows.length) : ∀ (m i : Nat), i + m = rows.length →
    Ev (fun k => comma_Smallest.l0 k (c : Int) ((rows.take i).map (sz p)) rows (rows.length : Int) (i : Int) (ints p) H x) ((srt.take c).map (fun x => x.f2), 0) := by
  intro m
  induction m with
  | zero =>
    intro i hi
    have : i = rows.length := by omega
    subst this
    rw [List.take_length]
    refine Ev.succ (fun k => by rw [comma_Smallest.l0]) (Ev.neg (by omega) (Ev.bind (Ev.const hs) ?_))
    rw [List.length_map]
    have e1 : (mn (c : Int) (rows.length : Int)) = ((min c rows.length : Nat) : Int) := by unfold mn; split <;> omega
    rw [e1, Int.toNat_natCast]
    refine Ev.pos (by omega) (Ev.pos (by omega) (Ev.bind (Ev.pure _) ?_))
    have e2 : srt.take (min c rows.length) = srt.take c := by
      by_cases h : c ≤ rows.length
      · rw [Nat.min_eq_left h]
      · rw [Nat.min_eq_right (by omega), List.take_of_length_le (by omega), List.take_of_length_le (by omega)]
    rw [e2]
    have := small_loop1 (srt.take c) (by rw [List.length_take]; omega) _ 0 [] (Nat.zero_add _) (Nat.le_refl _)
    rw [List.drop_zero, List.nil_append] at this
    exact this
  | succ m ih =>
    intro i hi
    have hil : i < rows.length := by omega
    have h3 := ih (i + 1) (by omega)
    rw [List.take_succ_eq_append_getElem hil, List.map_append] at h3
    refine Ev.succ (fun k => by rw [comma_Smallest.l0]) ?_
    rw [rdL1_at hil, w64n (by omega)]
    exact Ev.pos (by omega) (Ev.pos (by omega) (Ev.pos (by omega) (Ev.bind (sides_ev p _ ((hr _ (List.getElem_mem hil)).fits hp)).1 (Ev.pos (by rw [List.length_map, List.length_take]; omega) h3))))
def pairB (p : List Nat) : Bool := (EL p 130).all fun a => (EL p 130).all fun b => !(Nat.gcd a.f0.toNat b.f0.toNat == 1) || (numN p (subL a.f1 b.f1) == a.f0.toNat && denN p (subL a.f1 b.f1) == b.f0.toNat)
theorem pairB_PL : PL.all pairB = true := by kernel_rfl
structure Isz (p : List Nat) (q : List Int × S47) : Prop where
  n1 : 1 ≤ q.2.f0 ∧ q.2.f0 ≤ 130
  d1 : 1 ≤ q.2.f1 ∧ q.2.f1 ≤ 130
  num : numN p q.1 = q.2.f0.toNat
  den : denN p q.1 = q.2.f1.toNat
  cop : Nat.gcd q.2.f0.toNat q.2.f1.toNat = 1
  few : Few p q.1
theorem inL_isz {p : List Nat} (hp : p ∈ PL) {N De : Nat} (a : S83) (ha : a ∈ EL p 130) : ∀ m, m ≤ 130 → ∀ q ∈ inL p N De a m, Isz p q ∧ q.2.f0 = a.f0 ∧ q.2.f1 ≤ m
  | 0, _, q, hq => by simp [inL] at hq
  | m + 1, hm, q, hq => by
    rw [inL] at hq
    rcases List.mem_append.1 hq with hq | hq
    · have := inL_isz hp a ha m (by omega) q hq
      exact ⟨this.1, this.2.1, by omega⟩
    · split at hq
      · rename_i hc
        obtain ⟨hs, hg, hle⟩ := hc
        rw [List.mem_singleton.1 hq]
        have hb := ex_mem (n := m + 1) (H := 130) (by omega) hm hs
        have h0 := EL_f0 p 130 a ha
        have h1 := EL_sane hp (Nat.le_refl 130) a ha
        have h2 := EL_sane hp (Nat.le_refl 130) _ hb
        have h3 := List.all_eq_true.1 (List.all_eq_true.1 (List.all_eq_true.1 pairB_PL p hp) a ha) _ hb
        rw [Int.toNat_natCast, hg, beq_self_eq_true, Bool.not_true, Bool.false_or, Bool.and_eq_true, beq_iff_eq, beq_iff_eq] at h3
        refine ⟨⟨⟨h0.1, h0.2⟩, ⟨?_, ?_⟩, h3.1, ?_, ?_, ⟨?_, ?_⟩⟩, rfl, Int.le_refl _⟩
        · show (1 : Int) ≤ ((m + 1 : Nat) : Int); omega
        · show ((m + 1 : Nat) : Int) ≤ 130; omega
        · show _ = ((m + 1 : Nat) : Int).toNat
          rw [Int.toNat_natCast]; exact h3.2
        · show Nat.gcd _ ((m + 1 : Nat) : Int).toNat = 1
          rw [Int.toNat_natCast]; exact hg
        · show (subL a.f1 _).length = _
          have e1 := h1.1
          have e2 : (ex p (m + 1)).1.length = p.length := h2.1
          unfold subL
          rw [List.length_zipWith]; omega
        · intro n hn
          have e3 : ∀ n ∈ (ex p (m + 1)).1, 0 ≤ n ∧ n ≤ 7 := h2.2
          have hn' : n ∈ subL a.f1 (ex p (m + 1)).1 := hn
          unfold subL at hn'
          rw [List.mem_iff_getElem] at hn'
          obtain ⟨i, hi, rfl⟩ := hn'
          rw [List.getElem_zipWith]
          rw [List.length_zipWith] at hi
          have g1 := h1.2 _ (List.getElem_mem (by omega : i < a.f1.length))
          have g2 := e3 _ (List.getElem_mem (by omega : i < (ex p (m + 1)).1.length))
          rw [wrap64_id (by omega)]; omega
      · simp at hq
theorem law_isz {p : List Nat} (hp : p ∈ PL) {N De : Nat} : ∀ m, m ≤ 130 → ∀ q ∈ law p N De m, Isz p q ∧ q.2.f0 ≤ m
  | 0, _, q, hq => by simp [law] at hq
  | m + 1, hm, q, hq => by
    rw [law] at hq
    rcases List.mem_append.1 hq with hq | hq
    · have := law_isz hp m (by omega) q hq
      exact ⟨this.1, by omega⟩
    · split at hq
      · rename_i hs
        have := inL_isz hp _ (ex_mem (n := m + 1) (H := 130) (by omega) hm hs) m (by omega) q hq
        exact ⟨this.1, by rw [this.2.1]; exact Int.le_refl _⟩
      · simp at hq
theorem spec_few {p : List Nat} (hp : p ∈ PL) {N De H : Nat} (h : H ≤ 130) : ∀ r ∈ spec p N De H, Few p r ∧ lean9 p r := fun r hr => by
  rw [← law_spec hp H h] at hr
  obtain ⟨q, hq, rfl⟩ := List.mem_map.1 hr
  have hi := (law_isz hp H h q hq).1
  have h1 := hi.n1
  have h2 := hi.d1
  refine ⟨hi.few, ?_, ?_, ?_⟩
  · rw [hi.num]; exact Nat.le_trans (digits_130 (by omega)) (by omega)
  · rw [hi.den]; exact Nat.le_trans (digits_130 (by omega)) (by omega)
  · rw [hi.den]; omega
theorem spec_length {p : List Nat} (hp : p ∈ PL) {N De H : Nat} (h : H ≤ 130) : (spec p N De H).length ≤ 20000 := by
  rw [← law_spec hp H h, List.length_map]
  have := law_length (p := p) (N := N) (De := De) H h
  omega
theorem smallest_ev {p : List Nat} (hp : p ∈ PL) {x : List Int} (h : Few p x) {H : Nat} (h1 : 1 ≤ H) (h2 : H ≤ 130) (hg : denN p x < numN p x) (c : Nat) (hc : c ≤ 100) (rows' : List (List Int)) (hpm : (spec p (numN p x) (denN p x) H).Perm rows') (hs : rows'.Pairwise (ltF p)) :
    Ev (fun k => comma_Smallest.f k (ints p) (H : Int) x (c : Int)) (rows'.take c, 0) := by
  have hfew := fun r hr => (spec_few hp (N := numN p x) (De := denN p x) h2 r hr).1
  have hl := spec_length hp (N := numN p x) (De := denN p x) h2
  have hsrt := sized_unique p _ rows' (fun r hr => (spec_few hp h2 r hr).2) (by omega) hpm hs
  have hlen : (rows'.map (sz p)).length = (spec p (numN p x) (denN p x) H).length := by rw [List.length_map, hpm.length_eq]
  unfold comma_Smallest.f
  refine Ev.bind (check_ev hp h h1 h2 hg) (Ev.pos rfl (Ev.neg (by omega) ?_))
  rw [decide_eq_false (by omega : ¬ (c : Int) > 100)]
  refine Ev.succ (fun k => by rw [comma_Smallest.j0]) (Ev.neg (by decide) (Ev.bind (list_ev hp h h1 h2 hg) (Ev.pos rfl ?_)))
  have := small_loop0 hp c _ hfew (by omega) (H : Int) x _ hsrt hlen (spec p (numN p x) (denN p x) H).length 0 (by omega)
  rw [List.take_zero, List.map_nil, ← List.map_take, List.map_map] at this
  have e : ((fun x : S95 => x.f2) ∘ sz p) = id := rfl
  rw [e, List.map_id] at this
  exact this
theorem filt_ev {p : List Nat} (hp : p ∈ PL) : ∀ (l : List (List Int)), (∀ r ∈ l, Few p r) → Ev (fun k => filtC k (ints p) l) (some (l.filter fun r => decide (denN p r < numN p r)))
  | [], _ => Ev.pure _
  | x :: t, h => by
    have ih := filt_ev hp t (fun r hr => h r (List.mem_cons_of_mem _ hr))
    have hs := sign_ev hp (h x List.mem_cons_self)
    obtain ⟨k1, h1⟩ := ih
    obtain ⟨k2, h2⟩ := hs
    refine ⟨max k1 k2, fun k hk => ?_⟩
    show filtC k (ints p) (x :: t) = _
    have e1 : filtC k (ints p) t = _ := h1 k (by omega)
    have e2 : monzo_Sign.f k (ints p) x = _ := h2 k (by omega)
    rw [filtC, e2, Option.bind_some, if_pos rfl, e1]
    by_cases hc : denN p x < numN p x
    · rw [List.filter_cons_of_pos (by simpa using hc)]
      show some (some (if cmpN (numN p x) (denN p x) > 0 then _ else _)) = _
      rw [if_pos ((cmpN_pos _ _).2 hc)]
    · rw [List.filter_cons_of_neg (by simpa using hc)]
      show some (some (if cmpN (numN p x) (denN p x) > 0 then _ else _)) = _
      rw [if_neg (fun hh => hc ((cmpN_pos _ _).1 hh))]
theorem rowOrder (l : List (List Int)) : ∀ x ∈ l, ∀ y ∈ l, ∀ q ∈ l, ¬ cmpRow x x < 0 ∧ (cmpRow x y < 0 → cmpRow y q < 0 → cmpRow x q < 0) ∧ (¬ cmpRow x y < 0 → ¬ cmpRow y q < 0 → ¬ cmpRow x q < 0) :=
  fun x _ y _ q _ => ⟨by rw [cmpRow_self]; omega, cmpRow_order x y q⟩
theorem few235 : Few [2, 3, 5] [-2, 0, 1] := ⟨rfl, by decide⟩
theorem spec235 : spec [2, 3, 5] 5 4 10 = [[-2, 0, 1], [1, 1, -1], [-3, 2, 0], [1, -2, 1]] := by kernel_rfl
theorem in235 : [2, 3, 5] ∈ PL := by decide
theorem ex1 : Ev (fun k => comma_List.f k [2, 3, 5] 10 [-2, 0, 1]) ([[-2, 0, 1], [1, 1, -1], [-3, 2, 0], [1, -2, 1]], 0) := by
  have := list_ev in235 few235 (H := 10) (by omega) (by omega) (by decide)
  rw [← spec235]
  exact this
theorem ex2 : Ev (fun k => comma_Smallest.f k [2, 3, 5] 10 [-2, 0, 1] 2) ([[1, -2, 1], [-3, 2, 0]], 0) := by
  have := smallest_ev in235 few235 (H := 10) (by omega) (by omega) (by decide) 2 (by omega) [[1, -2, 1], [-3, 2, 0], [1, 1, -1], [-2, 0, 1]] (by
    show (spec [2, 3, 5] 5 4 10).Perm _
    rw [spec235]
    decide) (by unfold ltF; decide)
  exact this
theorem all23 : allC 2 2 [[-1, 1]] = [[2, -2], [1, -1], [0, 0], [-1, 1], [-2, 2]] := by kernel_rfl
theorem ex3 : Ev (fun k => g_Combine.f k [2, 3] [[-1, 1]] 2) ([[-2, 2], [-1, 1]], 0) := by
  have hp : [2, 3] ∈ PL := by decide
  have h1 := checkAll_ev hp [[-1, 1]] (by decide) (by decide)
  have h2 := filt_ev hp [[2, -2], [1, -1], [0, 0], [-1, 1], [-2, 2]] (fun r hr => by
    have : ∀ r ∈ ([[2, -2], [1, -1], [0, 0], [-1, 1], [-2, 2]] : List (List Int)), r.length = 2 ∧ ∀ n ∈ r, -1000 ≤ n ∧ n ≤ 1000 := by decide
    exact ⟨(this r hr).1, (this r hr).2⟩)
  have hsrt : g_sort_Row.f [[-1, 1], [-2, 2]] = some [[-2, 2], [-1, 1]] := by
    unfold g_sort_Row.f
    rw [if_pos (by decide)]
    congr 1
    exact sorted_one' (fun a b => cmpRow a b < 0) _ _ ((sortL_perm cmpRow [] _ (rowOrder _)).trans (by decide)) (sortL_sorted cmpRow [] _ (rowOrder _)) (by decide)
  have hcmp : g_compact_Row.f [[-2, 2], [-1, 1]] = some [[-2, 2], [-1, 1]] := by decide
  unfold g_Combine.f
  refine Ev.bind h1 (Ev.pos (by decide) (Ev.neg (by decide) (Ev.pos (by decide) (Ev.pos (by decide) ?_))))
  show Ev (fun k => (filtC k (ints [2, 3]) (allC 2 2 [[-1, 1]])).bind _) _
  rw [all23]
  refine Ev.bind h2 ?_
  show Ev (fun _ => (g_sort_Row.f [[-1, 1], [-2, 2]]).bind _) _
  rw [hsrt, Option.bind_some, hcmp]
  exact Ev.pure _
end Go.Proofs.YtobdccgpbohpiaaGreatDoor
set_option linter.unusedVariables false
set_option linter.unusedSimpArgs false
namespace Go.Proofs.YtobdccgpbohpiaaGreatDoor
open Go.RowKit Go.Lib F Go.Proofs.YtobdccgpbohpiaaGreatDoorW.PrintWords Go.Proofs.YtobdccgpbohpiaaGreatDoorW.PrintLast Go.Proofs.YtobdccgpbohpiaaGreatDoorW.PrintMore
def isP (n : Int) : Bool := if n < 2 then false else if n > 97 then false else (prime_IsPrime.f 30 n).getD false
theorem isP_all : (List.range 98).all (fun (n : Nat) => decide (n < 2) || (prime_IsPrime.f 30 (n : Int)).isSome) = true := by kernel_rfl
theorem isP_ev (n : Int) : Ev (fun k => prime_IsPrime.f k n) (isP n) := by
  unfold isP
  by_cases h1 : n < 2
  · rw [if_pos h1]
    unfold prime_IsPrime.f
    exact Ev.pos h1 (Ev.succ (fun k => by rw [prime_IsPrime.j0]) (Ev.pos rfl (Ev.pure _)))
  · rw [if_neg h1]
    by_cases h2 : n > 97
    · rw [if_pos h2]
      unfold prime_IsPrime.f
      rw [decide_eq_true h2]
      exact Ev.neg h1 (Ev.succ (fun k => by rw [prime_IsPrime.j0]) (Ev.pos rfl (Ev.pure _)))
    · rw [if_neg h2]
      obtain ⟨m, rfl⟩ := Int.eq_ofNat_of_zero_le (show 0 ≤ n by omega)
      have h := List.all_eq_true.1 isP_all m (List.mem_range.2 (by omega))
      rw [Bool.or_eq_true, decide_eq_true_eq] at h
      rcases h with h | h
      · omega
      · obtain ⟨r, hr⟩ := Option.isSome_iff_exists.1 h
        have e : (prime_IsPrime.f 30 (m : Int)).getD false = r := by rw [hr]; rfl
        rw [e]
        exact Ev.of_mono (fun k => prime_IsPrime.mono _ k) hr
theorem isP_bounds {n : Int} (h : isP n = true) : 2 ≤ n ∧ n < 98 := by
  unfold isP at h
  split at h
  · cases h
  · split at h
    · cases h
    · omega
def pscan : Option Int → List Int → Int
  | _, [] => 0
  | none, a :: t => if isP a = true then pscan (some a) t else 25
  | some b, a :: t => if isP a = true then (if a ≤ b then 6 else pscan (some a) t) else 25
def prevOf (p : List Int) : Nat → Option Int
  | 0 => none
  | i + 1 => some (rd p (i : Int))
theorem pscan_loop (p : List Int) (hb : p.length ≤ 1000) : ∀ (m i : Nat), i + m = p.length → Ev (fun k => prime_Check.l0 k p p (p.length : Int) (i : Int)) (pscan (prevOf p i) (p.drop i)) := by
  intro m
  induction m with
  | zero =>
    intro i hi
    have e : pscan (prevOf p i) [] = 0 := by cases prevOf p i <;> rfl
    rw [List.drop_eq_nil_of_le (by omega), e]
    refine Ev.succ (fun k => by rw [prime_Check.l0]) (Ev.neg ?_ (Ev.pure _))
    omega
  | succ m ih =>
    intro i hi
    have hip : i < p.length := by omega
    have h3 := ih (i + 1) (by omega)
    have e1 : rd p (i : Int) = p[i] := by rw [rd_nat, List.getD_eq_getElem?_getD, List.getElem?_eq_getElem hip]; rfl
    refine Ev.succ (fun k => by rw [prime_Check.l0]) ?_
    rw [List.drop_eq_getElem_cons hip, w64n (by omega)]
    have e2 : prevOf p (i + 1) = some p[i] := by rw [prevOf, e1]
    rw [e2] at h3
    refine Ev.pos (by omega) (Ev.pos (by omega) (Ev.pos (by omega) (Ev.bind (isP_ev _) ?_)))
    rw [e1]
    cases i with
    | zero =>
      show Ev _ (pscan none _)
      rw [pscan]
      by_cases hq : isP p[0] = true
      · rw [if_pos hq]
        exact Ev.pos hq (Ev.neg (by omega) h3)
      · rw [if_neg hq]
        exact Ev.neg hq (Ev.pure _)
    | succ i =>
      have e4 : wrap64 (((i + 1 : Nat) : Int) - 1) = (i : Int) := by rw [wrap64_id (by omega)]; omega
      rw [e4]
      clear e4
      show Ev _ (pscan (some (rd p (i : Int))) _)
      rw [pscan]
      by_cases hq : isP p[i + 1] = true
      · rw [if_pos hq]
        refine Ev.pos hq (Ev.pos (by omega) (Ev.pos (by omega) (Ev.pos (by omega) ?_)))
        by_cases hle : p[i + 1] ≤ rd p (i : Int)
        · rw [if_pos hle]
          exact Ev.pos hle (Ev.pure _)
        · rw [if_neg hle]
          exact Ev.neg hle h3
      · rw [if_neg hq]
        exact Ev.neg hq (Ev.pure _)
def perr (p : List Int) : Int := if p.length = 0 then 13 else if p.length > 6 then 4 else pscan none p
theorem pcheck_ev (p : List Int) : Ev (fun k => prime_Check.f k p) (perr p) := by
  unfold prime_Check.f perr
  by_cases h1 : p.length = 0
  · rw [if_pos h1]
    exact Ev.pos (by omega) (Ev.pure _)
  · rw [if_neg h1]
    refine Ev.neg (by omega) ?_
    by_cases h2 : p.length > 6
    · rw [if_pos h2]
      exact Ev.pos (by omega) (Ev.pure _)
    · rw [if_neg h2]
      refine Ev.neg (by omega) ?_
      exact pscan_loop p (by omega) p.length 0 (by omega)
theorem pscan_zero : ∀ (p : List Int) (o : Option Int), pscan o p = 0 → ∀ a ∈ p, 2 ≤ a ∧ a < 98
  | [], _, _, a, ha => by simp at ha
  | b :: t, o, h, a, ha => by
    have key : isP b = true ∧ pscan (some b) t = 0 := by
      cases o with
      | none =>
        rw [pscan] at h
        split at h
        · rename_i hb; exact ⟨hb, h⟩
        · omega
      | some c =>
        rw [pscan] at h
        split at h
        · rename_i hb
          split at h
          · omega
          · exact ⟨hb, h⟩
        · omega
    rcases List.mem_cons.1 ha with rfl | ha
    · exact isP_bounds key.1
    · exact pscan_zero t _ key.2 a ha
theorem perr_zero {p : List Int} (h : perr p = 0) : 1 ≤ p.length ∧ p.length ≤ 6 ∧ ∀ a ∈ p, 2 ≤ a ∧ a < 98 := by
  unfold perr at h
  split at h
  · omega
  · split at h
    · omega
    · exact ⟨by omega, by omega, pscan_zero p none h⟩
def allErr (p : List Int) (l : List (List Int)) : Int := if perr p = 0 then rowsErr p.length l else perr p
theorem checkAll_gen (p : List Int) (l : List (List Int)) (hb : l.length < 4611686018427387904) (ha : ∀ x ∈ l, x.length < 4611686018427387904) : Ev (fun k => monzo_CheckAll.f k p l) (allErr p l) := by
  unfold monzo_CheckAll.f allErr
  refine Ev.bind (pcheck_ev p) ?_
  by_cases h : perr p = 0
  · rw [if_pos h]
    refine Ev.pos h ?_
    have := chk_loop p l hb ha l.length 0 (by omega)
    rw [List.drop_zero] at this
    exact this
  · rw [if_neg h]
    exact Ev.neg h (Ev.pure _)
theorem rowsErr_zero : ∀ {n : Nat} {l : List (List Int)}, rowsErr n l = 0 → ∀ x ∈ l, x.length = n ∧ big x = false
  | n, [], _, x, hx => by simp at hx
  | n, y :: l, h, x, hx => by
    rw [rowsErr] at h
    split at h
    · rename_i hl
      split at h
      · omega
      · rename_i hb
        rcases List.mem_cons.1 hx with rfl | hx
        · exact ⟨hl, by simpa using hb⟩
        · exact rowsErr_zero h x hx
    · omega
theorem big_false {x : List Int} (h : big x = false) : ∀ n ∈ x, -1000 ≤ n ∧ n ≤ 1000 := fun n hn => by
  unfold big at h
  rw [List.any_eq_false] at h
  have := h n hn
  simp at this
  omega
theorem ints_toNat {p : List Int} (h : ∀ a ∈ p, 2 ≤ a ∧ a < 98) : ints (p.map Int.toNat) = p := by
  unfold ints
  rw [List.map_map]
  conv => rhs; rw [← List.map_id p]
  exact List.map_congr_left fun a ha => by have := h a ha; show ((a.toNat : Nat) : Int) = a; omega
end Go.Proofs.YtobdccgpbohpiaaGreatDoor
