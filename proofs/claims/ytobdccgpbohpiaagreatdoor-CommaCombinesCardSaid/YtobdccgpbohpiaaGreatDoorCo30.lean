/- Co: a part of the proof. -/
import Derived.Test.YtobdccgpbohpiaaGreatDoorCo22
import Derived.Test.YtobdccgpbohpiaaGreatDoorCo25
import Derived.Test.YtobdccgpbohpiaaGreatDoorCo29
set_option linter.unusedVariables false
set_option linter.unusedSimpArgs false
namespace Go.Proofs.YtobdccgpbohpiaaGreatDoor
open Go.RowKit Go.Lib F Go.Proofs.YtobdccgpbohpiaaGreatDoorW.PrintWords Go.Proofs.YtobdccgpbohpiaaGreatDoorW.PrintLast Go.Proofs.YtobdccgpbohpiaaGreatDoorW.PrintMore
theorem sorted_one' {α : Type} (lt : α → α → Prop) : ∀ (l m : List α), l.Perm m → l.Pairwise (fun a b => ¬ lt b a) → m.Pairwise lt → l = m
  | [], m, h, _, _ => (List.Perm.nil_eq h)
  | a :: l, [], h, _, _ => by have := h.length_eq; simp at this
  | a :: l, b :: m, h, h1, h2 => by
    have hab : a = b := by
      rw [List.pairwise_cons] at h1 h2
      rcases List.mem_cons.1 (h.mem_iff.1 List.mem_cons_self : a ∈ b :: m) with e | ha
      · exact e
      · rcases List.mem_cons.1 (h.mem_iff.2 List.mem_cons_self : b ∈ a :: l) with e | hb
        · exact e.symm
        · exact absurd (h2.1 a ha) (h1.1 b hb)
    subst hab
    rw [sorted_one' lt l m (List.Perm.cons_inv h) (List.pairwise_cons.1 h1).2 (List.pairwise_cons.1 h2).2]
def sz (p : List Nat) (r : List Int) : S95 := ⟨D (numN p r), D (denN p r), r⟩
theorem cmp_sz (p : List Nat) (r s : List Int) : cmpSized (sz p r) (sz p s) = cmpN (numN p r * denN p s) (numN p s * denN p r) := by
  unfold cmpSized sz
  rw [valB_D, valB_D, valB_D, valB_D]
def ltF (p : List Nat) (r s : List Int) : Prop := numN p r * denN p s < numN p s * denN p r
def lean9 (p : List Nat) (r : List Int) : Prop := nDigits (numN p r) ≤ 9 ∧ nDigits (denN p r) ≤ 9 ∧ 0 < denN p r
theorem sized_unique (p : List Nat) (rows rows' : List (List Int)) (h9 : ∀ r ∈ rows, lean9 p r) (hl : rows.length < 4611686018427387904) (hp : rows.Perm rows') (hs : rows'.Pairwise (ltF p)) : g_sort_sized.f (rows.map (sz p)) = some (rows'.map (sz p)) := by
  have hfit : fitSized (rows.map (sz p)) = true := by
    unfold fitSized
    rw [Bool.and_eq_true]
    refine ⟨decide_eq_true (by rw [List.length_map]; exact hl), List.all_eq_true.2 fun x hx => ?_⟩
    obtain ⟨r, hr, rfl⟩ := List.mem_map.1 hx
    obtain ⟨a, b, c⟩ := h9 r hr
    rw [Bool.and_eq_true, Bool.and_eq_true]
    exact ⟨⟨canon_D a, canon_D b⟩, decide_eq_true (by show 0 < valB (D _); rw [valB_D]; exact c)⟩
  have hO := sized_order (l := rows.map (sz p)) (fun x hx => by
    obtain ⟨r, hr, rfl⟩ := List.mem_map.1 hx
    show 0 < valB (D _)
    rw [valB_D]; exact (h9 r hr).2.2)
  unfold g_sort_sized.f
  rw [if_pos hfit]
  congr 1
  refine sorted_one' (fun a b => cmpSized a b < 0) _ _ ((sortL_perm cmpSized z95 _ hO).trans (hp.map _)) (sortL_sorted cmpSized z95 _ hO) ?_
  rw [List.pairwise_map]
  refine hs.imp (fun {a b} h => ?_)
  rw [cmp_sz, cmpN_lt]; exact h
theorem small_loop1 (xs : List S95) (hl : xs.length ≤ 100000) : ∀ (m i : Nat) (out : List (List Int)), i + m = xs.length → out.length ≤ i →
    Ev (fun k => comma_Smallest.l1 k out xs (xs.length : Int) (i : Int)) (out ++ (xs.drop i).map (fun x => x.f2), 0) := by
  intro m
  induction m with
  | zero =>
    intro i out hi ho
    rw [List.drop_eq_nil_of_le (by omega), List.map_nil, List.append_nil]
    refine Ev.succ (fun k => by rw [comma_Smallest.l1]) (Ev.neg ?_ (Ev.pure _))
    omega
  | succ m ih =>
    intro i out hi ho
    have hil : i < xs.length := by omega
    have e2 : rd_T95 xs (i : Int) = xs[i] := by
      unfold rd_T95
      rw [Int.toNat_natCast, List.getD_eq_getElem?_getD, List.getElem?_eq_getElem hil]; rfl
    have h3 := ih (i + 1) (out ++ [(xs[i]).f2]) (by omega) (by rw [List.length_append, List.length_singleton]; omega)
    refine Ev.succ (fun k => by rw [comma_Smallest.l1]) ?_
    rw [e2, w64n (by omega), List.drop_eq_getElem_cons hil, List.map_cons]
    refine Ev.pos (by omega) (Ev.pos (by omega) (Ev.pos (by omega) (Ev.pos (by omega) ?_)))
    rw [List.append_assoc, List.singleton_append] at h3
    exact h3
theorem small_loop0 {p : List Nat} (hp : p ∈ PL) (c : Nat) (rows : List (List Int)) (hr : ∀ r ∈ rows, Few p r) (hl : rows.length ≤ 100000) (H : Int) (x : List Int) (srt : List S95) (hs : g_sort_sized.f (rows.map (sz p)) = some srt) (hsl : srt.length = rows.length) : ∀ (m i : Nat), i + m = rows.length →
    Ev (fun k => comma_Smallest.l0 k (c : Int) ((rows.take i).map (sz p)) rows (rows.length : Int) (i : Int) (ints p) H x) ((srt.take c).map (fun x => x.f2), 0) := by
  intro m
  induction m with
  | zero =>
    intro i hi
    have : i = rows.length := by omega
    subst this
    rw [List.take_length]
    refine Ev.succ (fun k => by rw [comma_Smallest.l0]) (Ev.neg (by omega) (Ev.bind (Ev.const hs) ?_))
    rw [List.length_map]
    have e1 : (mn (c : Int) (rows.length : Int)) = ((min c rows.length : Nat) : Int) := by unfold mn; split <;> omega
    rw [e1, Int.toNat_natCast]
    refine Ev.pos (by omega) (Ev.pos (by omega) (Ev.bind (Ev.pure _) ?_))
    have e2 : srt.take (min c rows.length) = srt.take c := by
      by_cases h : c ≤ rows.length
      · rw [Nat.min_eq_left h]
      · rw [Nat.min_eq_right (by omega), List.take_of_length_le (by omega), List.take_of_length_le (by omega)]
    rw [e2]
    have := small_loop1 (srt.take c) (by rw [List.length_take]; omega) _ 0 [] (Nat.zero_add _) (Nat.le_refl _)
    rw [List.drop_zero, List.nil_append] at this
    exact this
  | succ m ih =>
    intro i hi
    have hil : i < rows.length := by omega
    have h3 := ih (i + 1) (by omega)
    rw [List.take_succ_eq_append_getElem hil, List.map_append] at h3
    refine Ev.succ (fun k => by rw [comma_Smallest.l0]) ?_
    rw [rdL1_at hil, w64n (by omega)]
    exact Ev.pos (by omega) (Ev.pos (by omega) (Ev.pos (by omega) (Ev.bind (sides_ev p _ ((hr _ (List.getElem_mem hil)).fits hp)).1 (Ev.pos (by rw [List.length_map, List.length_take]; omega) h3))))
def pairB (p : List Nat) : Bool := (EL p 130).all fun a => (EL p 130).all fun b => !(Nat.gcd a.f0.toNat b.f0.toNat == 1) || (numN p (subL a.f1 b.f1) == a.f0.toNat && denN p (subL a.f1 b.f1) == b.f0.toNat)
theorem pairB_PL : PL.all pairB = true := by kernel_rfl
structure Isz (p : List Nat) (q : List Int × S47) : Prop where
  n1 : 1 ≤ q.2.f0 ∧ q.2.f0 ≤ 130
  d1 : 1 ≤ q.2.f1 ∧ q.2.f1 ≤ 130
  num : numN p q.1 = q.2.f0.toNat
  den : denN p q.1 = q.2.f1.toNat
  cop : Nat.gcd q.2.f0.toNat q.2.f1.toNat = 1
  few : Few p q.1
theorem inL_isz {p : List Nat} (hp : p ∈ PL) {N De : Nat} (a : S83) (ha : a ∈ EL p 130) : ∀ m, m ≤ 130 → ∀ q ∈ inL p N De a m, Isz p q ∧ q.2.f0 = a.f0 ∧ q.2.f1 ≤ m
  | 0, _, q, hq => by simp [inL] at hq
  | m + 1, hm, q, hq => by
    rw [inL] at hq
    rcases List.mem_append.1 hq with hq | hq
    · have := inL_isz hp a ha m (by omega) q hq
      exact ⟨this.1, this.2.1, by omega⟩
    · split at hq
      · rename_i hc
        obtain ⟨hs, hg, hle⟩ := hc
        rw [List.mem_singleton.1 hq]
        have hb := ex_mem (n := m + 1) (H := 130) (by omega) hm hs
        have h0 := EL_f0 p 130 a ha
        have h1 := EL_sane hp (Nat.le_refl 130) a ha
        have h2 := EL_sane hp (Nat.le_refl 130) _ hb
        have h3 := List.all_eq_true.1 (List.all_eq_true.1 (List.all_eq_true.1 pairB_PL p hp) a ha) _ hb
        rw [Int.toNat_natCast, hg, beq_self_eq_true, Bool.not_true, Bool.false_or, Bool.and_eq_true, beq_iff_eq, beq_iff_eq] at h3
        refine ⟨⟨⟨h0.1, h0.2⟩, ⟨?_, ?_⟩, h3.1, ?_, ?_, ⟨?_, ?_⟩⟩, rfl, Int.le_refl _⟩
        · show (1 : Int) ≤ ((m + 1 : Nat) : Int); omega
        · show ((m + 1 : Nat) : Int) ≤ 130; omega
        · show _ = ((m + 1 : Nat) : Int).toNat
          rw [Int.toNat_natCast]; exact h3.2
        · show Nat.gcd _ ((m + 1 : Nat) : Int).toNat = 1
          rw [Int.toNat_natCast]; exact hg
        · show (subL a.f1 _).length = _
          have e1 := h1.1
          have e2 : (ex p (m + 1)).1.length = p.length := h2.1
          unfold subL
          rw [List.length_zipWith]; omega
        · intro n hn
          have e3 : ∀ n ∈ (ex p (m + 1)).1, 0 ≤ n ∧ n ≤ 7 := h2.2
          have hn' : n ∈ subL a.f1 (ex p (m + 1)).1 := hn
          unfold subL at hn'
          rw [List.mem_iff_getElem] at hn'
          obtain ⟨i, hi, rfl⟩ := hn'
          rw [List.getElem_zipWith]
          rw [List.length_zipWith] at hi
          have g1 := h1.2 _ (List.getElem_mem (by omega : i < a.f1.length))
          have g2 := e3 _ (List.getElem_mem (by omega : i < (ex p (m + 1)).1.length))
          rw [wrap64_id (by omega)]; omega
      · simp at hq
theorem law_isz {p : List Nat} (hp : p ∈ PL) {N De : Nat} : ∀ m, m ≤ 130 → ∀ q ∈ law p N De m, Isz p q ∧ q.2.f0 ≤ m
  | 0, _, q, hq => by simp [law] at hq
  | m + 1, hm, q, hq => by
    rw [law] at hq
    rcases List.mem_append.1 hq with hq | hq
    · have := law_isz hp m (by omega) q hq
      exact ⟨this.1, by omega⟩
    · split at hq
      · rename_i hs
        have := inL_isz hp _ (ex_mem (n := m + 1) (H := 130) (by omega) hm hs) m (by omega) q hq
        exact ⟨this.1, by rw [this.2.1]; exact Int.le_refl _⟩
      · simp at hq
theorem spec_few {p : List Nat} (hp : p ∈ PL) {N De H : Nat} (h : H ≤ 130) : ∀ r ∈ spec p N De H, Few p r ∧ lean9 p r := fun r hr => by
  rw [← law_spec hp H h] at hr
  obtain ⟨q, hq, rfl⟩ := List.mem_map.1 hr
  have hi := (law_isz hp H h q hq).1
  have h1 := hi.n1
  have h2 := hi.d1
  refine ⟨hi.few, ?_, ?_, ?_⟩
  · rw [hi.num]; exact Nat.le_trans (digits_130 (by omega)) (by omega)
  · rw [hi.den]; exact Nat.le_trans (digits_130 (by omega)) (by omega)
  · rw [hi.den]; omega
theorem spec_length {p : List Nat} (hp : p ∈ PL) {N De H : Nat} (h : H ≤ 130) : (spec p N De H).length ≤ 20000 := by
  rw [← law_spec hp H h, List.length_map]
  have := law_length (p := p) (N := N) (De := De) H h
  omega
theorem smallest_ev {p : List Nat} (hp : p ∈ PL) {x : List Int} (h : Few p x) {H : Nat} (h1 : 1 ≤ H) (h2 : H ≤ 130) (hg : denN p x < numN p x) (c : Nat) (hc : c ≤ 100) (rows' : List (List Int)) (hpm : (spec p (numN p x) (denN p x) H).Perm rows') (hs : rows'.Pairwise (ltF p)) :
    Ev (fun k => comma_Smallest.f k (ints p) (H : Int) x (c : Int)) (rows'.take c, 0) := by
  have hfew := fun r hr => (spec_few hp (N := numN p x) (De := denN p x) h2 r hr).1
  have hl := spec_length hp (N := numN p x) (De := denN p x) h2
  have hsrt := sized_unique p _ rows' (fun r hr => (spec_few hp h2 r hr).2) (by omega) hpm hs
  have hlen : (rows'.map (sz p)).length = (spec p (numN p x) (denN p x) H).length := by rw [List.length_map, hpm.length_eq]
  unfold comma_Smallest.f
  refine Ev.bind (check_ev hp h h1 h2 hg) (Ev.pos rfl (Ev.neg (by omega) ?_))
  rw [decide_eq_false (by omega : ¬ (c : Int) > 100)]
  refine Ev.succ (fun k => by rw [comma_Smallest.j0]) (Ev.neg (by decide) (Ev.bind (list_ev hp h h1 h2 hg) (Ev.pos rfl ?_)))
  have := small_loop0 hp c _ hfew (by omega) (H : Int) x _ hsrt hlen (spec p (numN p x) (denN p x) H).length 0 (by omega)
  rw [List.take_zero, List.map_nil, ← List.map_take, List.map_map] at this
  have e : ((fun x : S95 => x.f2) ∘ sz p) = id := rfl
  rw [e, List.map_id] at this
  exact this
theorem filt_ev {p : List Nat} (hp : p ∈ PL) : ∀ (l : List (List Int)), (∀ r ∈ l, Few p r) → Ev (fun k => filtC k (ints p) l) (some (l.filter fun r => decide (denN p r < numN p r)))
  | [], _ => Ev.pure _
  | x :: t, h => by
    have ih := filt_ev hp t (fun r hr => h r (List.mem_cons_of_mem _ hr))
    have hs := sign_ev hp (h x List.mem_cons_self)
    obtain ⟨k1, h1⟩ := ih
    obtain ⟨k2, h2⟩ := hs
    refine ⟨max k1 k2, fun k hk => ?_⟩
    show filtC k (ints p) (x :: t) = _
    have e1 : filtC k (ints p) t = _ := h1 k (by omega)
    have e2 : monzo_Sign.f k (ints p) x = _ := h2 k (by omega)
    rw [filtC, e2, Option.bind_some, if_pos rfl, e1]
    by_cases hc : denN p x < numN p x
    · rw [List.filter_cons_of_pos (by simpa using hc)]
      show some (some (if cmpN (numN p x) (denN p x) > 0 then _ else _)) = _
      rw [if_pos ((cmpN_pos _ _).2 hc)]
    · rw [List.filter_cons_of_neg (by simpa using hc)]
      show some (some (if cmpN (numN p x) (denN p x) > 0 then _ else _)) = _
      rw [if_neg (fun hh => hc ((cmpN_pos _ _).1 hh))]
theorem rowOrder (l : List (List Int)) : ∀ x ∈ l, ∀ y ∈ l, ∀ q ∈ l, ¬ cmpRow x x < 0 ∧ (cmpRow x y < 0 → cmpRow y q < 0 → cmpRow x q < 0) ∧ (¬ cmpRow x y < 0 → ¬ cmpRow y q < 0 → ¬ cmpRow x q < 0) :=
  fun x _ y _ q _ => ⟨by rw [cmpRow_self]; omega, cmpRow_order x y q⟩
theorem few235 : Few [2, 3, 5] [-2, 0, 1] := ⟨rfl, by decide⟩
theorem spec235 : spec [2, 3, 5] 5 4 10 = [[-2, 0, 1], [1, 1, -1], [-3, 2, 0], [1, -2, 1]] := by kernel_rfl
theorem in235 : [2, 3, 5] ∈ PL := by decide
theorem ex1 : Ev (fun k => comma_List.f k [2, 3, 5] 10 [-2, 0, 1]) ([[-2, 0, 1], [1, 1, -1], [-3, 2, 0], [1, -2, 1]], 0) := by
  have := list_ev in235 few235 (H := 10) (by omega) (by omega) (by decide)
  rw [← spec235]
  exact this
theorem ex2 : Ev (fun k => comma_Smallest.f k [2, 3, 5] 10 [-2, 0, 1] 2) ([[1, -2, 1], [-3, 2, 0]], 0) := by
  have := smallest_ev in235 few235 (H := 10) (by omega) (by omega) (by decide) 2 (by omega) [[1, -2, 1], [-3, 2, 0], [1, 1, -1], [-2, 0, 1]] (by
    show (spec [2, 3, 5] 5 4 10).Perm _
    rw [spec235]
    decide) (by unfold ltF; decide)
  exact this
theorem all23 : allC 2 2 [[-1, 1]] = [[2, -2], [1, -1], [0, 0], [-1, 1], [-2, 2]] := by kernel_rfl
theorem ex3 : Ev (fun k => g_Combine.f k [2, 3] [[-1, 1]] 2) ([[-2, 2], [-1, 1]], 0) := by
  have hp : [2, 3] ∈ PL := by decide
  have h1 := checkAll_ev hp [[-1, 1]] (by decide) (by decide)
  have h2 := filt_ev hp [[2, -2], [1, -1], [0, 0], [-1, 1], [-2, 2]] (fun r hr => by
    have : ∀ r ∈ ([[2, -2], [1, -1], [0, 0], [-1, 1], [-2, 2]] : List (List Int)), r.length = 2 ∧ ∀ n ∈ r, -1000 ≤ n ∧ n ≤ 1000 := by decide
    exact ⟨(this r hr).1, (this r hr).2⟩)
  have hsrt : g_sort_Row.f [[-1, 1], [-2, 2]] = some [[-2, 2], [-1, 1]] := by
    unfold g_sort_Row.f
    rw [if_pos (by decide)]
    congr 1
    exact sorted_one' (fun a b => cmpRow a b < 0) _ _ ((sortL_perm cmpRow [] _ (rowOrder _)).trans (by decide)) (sortL_sorted cmpRow [] _ (rowOrder _)) (by decide)
  have hcmp : g_compact_Row.f [[-2, 2], [-1, 1]] = some [[-2, 2], [-1, 1]] := by decide
  unfold g_Combine.f
  refine Ev.bind h1 (Ev.pos (by decide) (Ev.neg (by decide) (Ev.pos (by decide) (Ev.pos (by decide) ?_))))
  show Ev (fun k => (filtC k (ints [2, 3]) (allC 2 2 [[-1, 1]])).bind _) _
  rw [all23]
  refine Ev.bind h2 ?_
  show Ev (fun _ => (g_sort_Row.f [[-1, 1], [-2, 2]]).bind _) _
  rw [hsrt, Option.bind_some, hcmp]
  exact Ev.pure _
end Go.Proofs.YtobdccgpbohpiaaGreatDoor
set_option linter.unusedVariables false
set_option linter.unusedSimpArgs false
namespace Go.Proofs.YtobdccgpbohpiaaGreatDoor
open Go.RowKit Go.Sort F Go.Proofs.YtobdccgpbohpiaaGreatDoorW.PrintWords Go.Proofs.YtobdccgpbohpiaaGreatDoorW.PrintLast Go.Proofs.YtobdccgpbohpiaaGreatDoorW.PrintMore
def rowK (m : Nat) : List (List Int) → List Int → Nat → List Int
  | [], z, _ => z
  | x :: l, z, t => rowK m l (zrow x z (((t % (2 * m + 1) : Nat) : Int) - m)) (t / (2 * m + 1))
theorem rowK_length (m : Nat) : ∀ (l : List (List Int)) (z : List Int) (t : Nat), (rowK m l z t).length = z.length
  | [], _, _ => rfl
  | x :: l, z, t => by rw [rowK, rowK_length m l, zrow_length]
theorem rowK_mem (m : Nat) : ∀ (l all : List (List Int)) (z : List Int), z ∈ l.foldl (stepC m) all ↔ ∃ y ∈ all, ∃ t, t < (2 * m + 1) ^ l.length ∧ z = rowK m l y t
  | [], all, z => by
    constructor
    · intro h; exact ⟨z, h, 0, by simp, rfl⟩
    · rintro ⟨y, hy, t, _, rfl⟩; exact hy
  | x :: l, all, z => by
    rw [List.foldl_cons, rowK_mem m l (stepC m all x) z]
    constructor
    · rintro ⟨y', hy', t', ht', rfl⟩
      unfold stepC at hy'
      obtain ⟨y, hy, h⟩ := List.mem_flatMap.1 hy'
      obtain ⟨k, hk, rfl⟩ := List.mem_map.1 h
      unfold ks at hk
      obtain ⟨j, hj, rfl⟩ := List.mem_map.1 hk
      rw [List.mem_range] at hj
      refine ⟨y, hy, j + (2 * m + 1) * t', ?_, ?_⟩
      · rw [List.length_cons, Nat.pow_succ, Nat.mul_comm _ (2 * m + 1)]
        have h1 : (2 * m + 1) * (t' + 1) ≤ (2 * m + 1) * (2 * m + 1) ^ l.length := Nat.mul_le_mul_left _ ht'
        rw [Nat.mul_add, Nat.mul_one] at h1
        omega
      · rw [rowK, Nat.add_mul_mod_self_left, Nat.mod_eq_of_lt hj, Nat.add_mul_div_left _ _ (by omega), Nat.div_eq_of_lt hj, Nat.zero_add]
    · rintro ⟨y, hy, t, ht, rfl⟩
      refine ⟨_, ?_, t / (2 * m + 1), ?_, rfl⟩
      · unfold stepC ks
        exact List.mem_flatMap.2 ⟨y, hy, List.mem_map.2 ⟨_, List.mem_map.2 ⟨t % (2 * m + 1), List.mem_range.2 (Nat.mod_lt _ (by omega)), rfl⟩, rfl⟩⟩
      · rw [List.length_cons, Nat.pow_succ, Nat.mul_comm] at ht
        exact Nat.div_lt_of_lt_mul ht
theorem zrow_bound {x y : List Int} {k : Int} {B : Int} (hB : 0 ≤ B ∧ B ≤ 1000) (hk : -3 ≤ k ∧ k ≤ 3) (hx : ∀ n ∈ x, -9 ≤ n ∧ n ≤ 9) (hy : ∀ n ∈ y, -B ≤ n ∧ n ≤ B) : ∀ n ∈ zrow x y k, -(B + 27) ≤ n ∧ n ≤ B + 27 := by
  intro n hn
  unfold zrow at hn
  obtain ⟨i, _, rfl⟩ := List.mem_map.1 hn
  have e1 : -9 ≤ rd x (i : Int) ∧ rd x (i : Int) ≤ 9 := by
    rw [rd_nat, List.getD_eq_getElem?_getD]
    cases h : x[i]? with
    | none => exact ⟨by decide, by decide⟩
    | some a => exact hx a (List.mem_of_getElem? h)
  have e2 : -B ≤ rd y (i : Int) ∧ rd y (i : Int) ≤ B := by
    rw [rd_nat, List.getD_eq_getElem?_getD]
    cases h : y[i]? with
    | none => exact ⟨by show -B ≤ 0; omega, by show 0 ≤ B; omega⟩
    | some a => exact hy a (List.mem_of_getElem? h)
  have e3 : -27 ≤ k * rd x (i : Int) ∧ k * rd x (i : Int) ≤ 27 := by
    generalize rd x (i : Int) = a at e1
    have : k = -3 ∨ k = -2 ∨ k = -1 ∨ k = 0 ∨ k = 1 ∨ k = 2 ∨ k = 3 := by omega
    rcases this with rfl | rfl | rfl | rfl | rfl | rfl | rfl <;> omega
  rw [wrap64_id (x := k * rd x (i : Int)) (by omega), wrap64_id (by omega)]
  omega
theorem rowK_bound {m : Nat} (hm : m ≤ 3) : ∀ (l : List (List Int)) (z : List Int) (t : Nat) (B : Int), 0 ≤ B → B + 27 * l.length ≤ 1000 → (∀ x ∈ l, ∀ n ∈ x, -9 ≤ n ∧ n ≤ 9) → (∀ n ∈ z, -B ≤ n ∧ n ≤ B) → ∀ n ∈ rowK m l z t, -1000 ≤ n ∧ n ≤ 1000
  | [], z, t, B, h0, h1, hl, hz => fun n hn => by
    have := hz n hn
    simp only [List.length_nil] at h1
    omega
  | x :: l, z, t, B, h0, h1, hl, hz => by
    rw [List.length_cons] at h1
    rw [rowK]
    have h2 : t % (2 * m + 1) < 2 * m + 1 := Nat.mod_lt _ (by omega)
    refine rowK_bound hm l _ _ (B + 27) (by omega) (by omega) (fun y hy => hl y (List.mem_cons_of_mem _ hy)) ?_
    exact zrow_bound (by omega) (by omega) (hl x List.mem_cons_self) hz
def insC (x : List Int) : List (List Int) → List (List Int)
  | [] => [x]
  | y :: t => if cmpRow x y = 0 then y :: t else if cmpRow x y < 0 then x :: y :: t else y :: insC x t
theorem cmpRow_neg : ∀ x y : List Int, cmpRow y x = -cmpRow x y
  | [], [] => rfl
  | [], _ :: _ => rfl
  | _ :: _, [] => rfl
  | a :: x, b :: y => by
    have ih := cmpRow_neg x y
    simp only [cmpRow]
    by_cases h1 : a < b
    · rw [if_neg (by omega), if_pos h1, if_pos h1]; rfl
    · by_cases h2 : b < a
      · rw [if_pos h2, if_neg h1, if_pos h2]
      · rw [if_neg h2, if_neg h1, if_neg h1, if_neg h2, ih]
theorem insC_mem (x : List Int) : ∀ (l : List (List Int)) (a : List Int), a ∈ insC x l ↔ a = x ∨ a ∈ l
  | [], a => by simp [insC]
  | y :: t, a => by
    rw [insC]
    by_cases h0 : cmpRow x y = 0
    · rw [if_pos h0]
      have := cmpRow_eq h0
      subst this
      constructor
      · exact .inr
      · rintro (rfl | h)
        · exact List.mem_cons_self
        · exact h
    · rw [if_neg h0]
      split
      · simp
      · rw [List.mem_cons, insC_mem x t a, List.mem_cons]
        constructor
        · rintro (h | h | h)
          · exact .inr (.inl h)
          · exact .inl h
          · exact .inr (.inr h)
        · rintro (h | h | h)
          · exact .inr (.inl h)
          · exact .inl h
          · exact .inr (.inr h)
theorem insC_sorted (x : List Int) : ∀ l : List (List Int), l.Pairwise (fun a b => cmpRow a b < 0) → (insC x l).Pairwise fun a b => cmpRow a b < 0
  | [], _ => by simp [insC]
  | y :: t, h => by
    obtain ⟨h1, h2⟩ := List.pairwise_cons.1 h
    rw [insC]
    split
    · exact h
    · split
      · rename_i h0 h3
        refine List.pairwise_cons.2 ⟨fun b hb => ?_, h⟩
        rcases List.mem_cons.1 hb with rfl | hb
        · exact h3
        · exact (cmpRow_order x y b).1 h3 (h1 b hb)
      · rename_i h0 h3
        refine List.pairwise_cons.2 ⟨fun b hb => ?_, insC_sorted x t h2⟩
        rcases (insC_mem x t b).1 hb with rfl | hb
        · have := cmpRow_neg y b
          omega
        · exact h1 b hb
theorem insC_length (x : List Int) : ∀ l : List (List Int), (insC x l).length ≤ l.length + 1
  | [] => by simp [insC]
  | y :: t => by
    have := insC_length x t
    rw [insC]
    split
    · omega
    · split
      · simp
      · simp only [List.length_cons]; omega
def wants (pos : List Int → Bool) (row : Nat → List Int) : Nat → List (List Int)
  | 0 => []
  | k + 1 => if pos (row k) = true then insC (row k) (wants pos row k) else wants pos row k
theorem wants_length (pos : List Int → Bool) (row : Nat → List Int) : ∀ k, (wants pos row k).length ≤ k
  | 0 => Nat.le_refl _
  | k + 1 => by
    have := wants_length pos row k
    have h2 := insC_length (row k) (wants pos row k)
    rw [wants]
    split <;> omega
theorem wants_mem (pos : List Int → Bool) (row : Nat → List Int) (a : List Int) : ∀ k, a ∈ wants pos row k ↔ ∃ t, t < k ∧ a = row t ∧ pos a = true
  | 0 => by simp [wants]
  | k + 1 => by
    have ih := wants_mem pos row a k
    rw [wants]
    split
    · rename_i h
      rw [insC_mem, ih]
      constructor
      · rintro (rfl | ⟨t, ht, e, hp⟩)
        · exact ⟨k, by omega, rfl, h⟩
        · exact ⟨t, by omega, e, hp⟩
      · rintro ⟨t, ht, e, hp⟩
        by_cases htk : t = k
        · subst htk; exact .inl e
        · exact .inr ⟨t, by omega, e, hp⟩
    · rename_i h
      rw [ih]
      constructor
      · rintro ⟨t, ht, e, hp⟩; exact ⟨t, by omega, e, hp⟩
      · rintro ⟨t, ht, e, hp⟩
        by_cases htk : t = k
        · subst htk; rw [e] at hp; exact absurd hp h
        · exact ⟨t, by omega, e, hp⟩
theorem wants_sorted (pos : List Int → Bool) (row : Nat → List Int) : ∀ k, (wants pos row k).Pairwise fun a b => cmpRow a b < 0
  | 0 => List.Pairwise.nil
  | k + 1 => by
    rw [wants]
    split
    · exact insC_sorted _ _ (wants_sorted pos row k)
    · exact wants_sorted pos row k
theorem strict_one : ∀ l m : List (List Int), l.Pairwise (fun a b => cmpRow a b < 0) → m.Pairwise (fun a b => cmpRow a b < 0) → (∀ a, a ∈ l ↔ a ∈ m) → l = m
  | [], [], _, _, _ => rfl
  | [], b :: m, _, _, h => absurd ((h b).2 List.mem_cons_self) (by simp)
  | a :: l, [], _, _, h => absurd ((h a).1 List.mem_cons_self) (by simp)
  | a :: l, b :: m, hl, hm, h => by
    obtain ⟨l1, l2⟩ := List.pairwise_cons.1 hl
    obtain ⟨m1, m2⟩ := List.pairwise_cons.1 hm
    have hab : a = b := by
      rcases List.mem_cons.1 ((h a).1 List.mem_cons_self) with e | h1
      · exact e
      · rcases List.mem_cons.1 ((h b).2 List.mem_cons_self) with e | h2
        · exact e.symm
        · have := m1 a h1
          have := l1 b h2
          have := cmpRow_neg a b
          omega
    subst hab
    congr 1
    refine strict_one l m l2 m2 fun c => ⟨fun hc => ?_, fun hc => ?_⟩
    · rcases List.mem_cons.1 ((h c).1 (List.mem_cons_of_mem _ hc)) with e | h1
      · have := l1 c hc
        rw [e, cmpRow_self] at this
        omega
      · exact h1
    · rcases List.mem_cons.1 ((h c).2 (List.mem_cons_of_mem _ hc)) with e | h1
      · have := m1 c hc
        rw [e, cmpRow_self] at this
        omega
      · exact h1
theorem getD_sorted {xs : List (List Int)} (hs : xs.Pairwise fun a b => ¬ cmpRow b a < 0) {i j : Nat} (hij : i ≤ j) (hj : j < xs.length) : ¬ cmpRow (xs.getD j []) (xs.getD i []) < 0 := by
  by_cases h : i = j
  · subst h; rw [cmpRow_self]; omega
  · have := List.pairwise_iff_getElem.1 hs i j (by omega) hj (by omega)
    rw [List.getD_eq_getElem?_getD, List.getD_eq_getElem?_getD, List.getElem?_eq_getElem hj, List.getElem?_eq_getElem (show i < xs.length by omega)]
    exact this
theorem compactL_sorted {xs : List (List Int)} (hs : xs.Pairwise fun a b => ¬ cmpRow b a < 0) : (compactL xs).Pairwise fun a b => cmpRow a b < 0 := by
  unfold compactL keepIx
  rw [List.pairwise_map]
  refine List.Pairwise.imp_of_mem (R := fun a b => a < b) ?_ (List.Pairwise.filter _ List.pairwise_lt_range)
  intro i j hi hj hij
  obtain ⟨_, _⟩ := List.mem_filter.1 hi
  obtain ⟨hj1, hj2⟩ := List.mem_filter.1 hj
  rw [List.mem_range] at hj1
  unfold keepAt at hj2
  have hne : xs.getD j [] ≠ xs.getD (j - 1) [] := by
    have hj3 : (j == 0) = true ∨ decide (xs.getD j [] ≠ xs.getD (j - 1) []) = true := by rw [← Bool.or_eq_true]; exact hj2
    rcases hj3 with h | h
    · have := eq_of_beq h; omega
    · exact of_decide_eq_true h
  have h1 := getD_sorted hs (show i ≤ j - 1 by omega) (by omega)
  have h2 := getD_sorted hs (show j - 1 ≤ j by omega) hj1
  have h3 : cmpRow (xs.getD (j - 1) []) (xs.getD j []) < 0 := by
    have e := cmpRow_neg (xs.getD (j - 1) []) (xs.getD j [])
    have : cmpRow (xs.getD (j - 1) []) (xs.getD j []) ≠ 0 := fun h => hne (cmpRow_eq h).symm
    omega
  by_cases h4 : cmpRow (xs.getD i []) (xs.getD (j - 1) []) < 0
  · exact (cmpRow_order _ _ _).1 h4 h3
  · have e := cmpRow_neg (xs.getD i []) (xs.getD (j - 1) [])
    have : xs.getD i [] = xs.getD (j - 1) [] := cmpRow_eq (by omega)
    rw [this]; exact h3
theorem compactL_mem (xs : List (List Int)) (a : List Int) : a ∈ compactL xs ↔ a ∈ xs := by
  unfold compactL
  constructor
  · intro h
    obtain ⟨i, hi, rfl⟩ := List.mem_map.1 h
    have hi2 := List.mem_range.1 (List.mem_filter.1 hi).1
    rw [List.getD_eq_getElem?_getD, List.getElem?_eq_getElem hi2]
    exact List.getElem_mem hi2
  · intro h
    have key : ∀ t, t < xs.length → ∃ i ∈ keepIx xs xs.length, xs.getD i [] = xs.getD t [] := by
      intro t
      induction t with
      | zero => intro ht; exact ⟨0, List.mem_filter.2 ⟨List.mem_range.2 ht, rfl⟩, rfl⟩
      | succ t ih =>
        intro ht
        by_cases hk : keepAt xs (t + 1) = true
        · exact ⟨t + 1, List.mem_filter.2 ⟨List.mem_range.2 ht, hk⟩, rfl⟩
        · obtain ⟨i, hi, e⟩ := ih (by omega)
          refine ⟨i, hi, e.trans ?_⟩
          unfold keepAt at hk
          by_cases hne : xs.getD (t + 1) [] = xs.getD (t + 1 - 1) []
          · exact hne.symm
          · exact absurd (by rw [Bool.or_eq_true]; exact .inr (decide_eq_true hne)) hk
    obtain ⟨t, ht, rfl⟩ := List.getElem_of_mem h
    obtain ⟨i, hi, e⟩ := key t ht
    refine List.mem_map.2 ⟨i, hi, e.trans ?_⟩
    rw [List.getD_eq_getElem?_getD, List.getElem?_eq_getElem ht]; rfl
theorem compact_wants (pos : List Int → Bool) (m n : Nat) (l : List (List Int)) : compactL (sortL cmpRow [] ((allC m n l).filter pos)) = wants pos (rowK m l (List.replicate n 0)) ((2 * m + 1) ^ l.length) := by
  refine strict_one _ _ (compactL_sorted (sortL_sorted cmpRow [] _ (rowOrder _))) (wants_sorted _ _ _) fun a => ?_
  rw [compactL_mem, (sortL_perm cmpRow [] _ (rowOrder _)).mem_iff, List.mem_filter, wants_mem]
  unfold allC
  rw [rowK_mem]
  constructor
  · rintro ⟨⟨y, hy, t, ht, rfl⟩, hp⟩
    rw [List.mem_singleton.1 hy] at hp ⊢
    exact ⟨t, ht, rfl, hp⟩
  · rintro ⟨t, ht, rfl, hp⟩
    exact ⟨⟨_, List.mem_singleton.2 rfl, t, ht, rfl⟩, hp⟩
theorem allC_few {p : List Nat} {m : Nat} (hm : m ≤ 3) {l : List (List Int)} (hl : l.length ≤ 3) (hx : ∀ x ∈ l, ∀ n ∈ x, -9 ≤ n ∧ n ≤ 9) (t : Nat) : Few p (rowK m l (List.replicate p.length 0) t) :=
  ⟨by rw [rowK_length, List.length_replicate], rowK_bound hm l _ t 0 (by omega) (by omega) hx (fun n hn => by rw [List.eq_of_mem_replicate hn]; omega)⟩
theorem combine_ev {p : List Nat} (hp : p ∈ PL) {m : Nat} (hm : m ≤ 3) {l : List (List Int)} (hl : l.length ≤ 3) (hx : ∀ x ∈ l, x.length = p.length ∧ ∀ n ∈ x, -9 ≤ n ∧ n ≤ 9) :
    Ev (fun k => g_Combine.f k (ints p) l (m : Int)) (wants (fun r => decide (denN p r < numN p r)) (rowK m l (List.replicate p.length 0)) ((2 * m + 1) ^ l.length), 0) := by
  have hpl := PL_length hp
  have hx1 : ∀ x ∈ l, x.length = p.length := fun x h => (hx x h).1
  have hx2 : ∀ x ∈ l, ∀ n ∈ x, -9 ≤ n ∧ n ≤ 9 := fun x h => (hx x h).2
  have hfew : ∀ r ∈ allC m p.length l, Few p r := fun r hr => by
    unfold allC at hr
    obtain ⟨y, hy, t, _, rfl⟩ := (rowK_mem m l _ r).1 hr
    rw [List.mem_singleton.1 hy]
    exact allC_few hm hl hx2 t
  have h1 := checkAll_ev hp l (by omega) (fun x h => by rw [hx1 x h]; omega)
  have hre : ∀ (q : List (List Int)), (∀ x ∈ q, x.length = p.length ∧ ∀ n ∈ x, -9 ≤ n ∧ n ≤ 9) → rowsErr p.length q = 0 := by
    intro q
    induction q with
    | nil => intro _; rfl
    | cons x t ih =>
      intro h
      have hx := h x List.mem_cons_self
      have hb : big x = false := by
        unfold big
        rw [List.any_eq_false]
        intro n hn
        have := hx.2 n hn
        simp; omega
      rw [rowsErr, if_pos hx.1, hb, if_neg (by decide)]
      exact ih fun y hy => h y (List.mem_cons_of_mem _ hy)
  rw [hre l hx] at h1
  have h2 := filt_ev hp (allC m p.length l) hfew
  have hlen : (allC m p.length l).length ≤ 343 := by
    have := allC_length m p.length l l.length (Nat.le_refl _)
    rw [List.take_length] at this
    rw [this]
    calc (2 * m + 1) ^ l.length ≤ 7 ^ l.length := Nat.pow_le_pow_left (by omega) _
      _ ≤ 7 ^ 3 := Nat.pow_le_pow_right (by omega) hl
  have hfit : ∀ q : List (List Int), q.length ≤ 343 → (∀ r ∈ q, r.length = p.length) → fitRows q = true := fun q hq hr => by
    simp only [fitRows, Bool.and_eq_true, decide_eq_true_eq, List.all_eq_true]
    exact ⟨by omega, fun x hx => by rw [hr x hx]; omega⟩
  have hfl := List.length_filter_le (fun r => decide (denN p r < numN p r)) (allC m p.length l)
  have hpm := sortL_perm cmpRow [] ((allC m p.length l).filter fun r => decide (denN p r < numN p r)) (rowOrder _)
  have hcnt : cntOk (m : Int) l.length 1 = true := by
    have : (l.length = 0 ∨ l.length = 1 ∨ l.length = 2 ∨ l.length = 3) ∧ (m = 0 ∨ m = 1 ∨ m = 2 ∨ m = 3) := by omega
    obtain ⟨h | h | h | h, h' | h' | h' | h'⟩ := this <;> rw [h, h'] <;> decide
  have hpli : (ints p).length = p.length := by unfold ints; rw [List.length_map]
  unfold g_Combine.f
  refine Ev.bind h1 (Ev.pos rfl (Ev.neg (by omega) (Ev.pos hcnt (Ev.pos ?_ ?_))))
  · simp only [Bool.and_eq_true, decide_eq_true_eq, List.all_eq_true, hpli]
    exact ⟨⟨hx1, by omega⟩, by omega⟩
  · rw [Int.toNat_natCast, hpli]
    refine Ev.bind h2 ?_
    show Ev (fun _ => (g_sort_Row.f _).bind _) _
    unfold g_sort_Row.f
    rw [if_pos (hfit _ (by omega) (fun r hr => (hfew r (List.mem_filter.1 hr).1).len)), Option.bind_some]
    unfold g_compact_Row.f
    rw [if_pos (hfit _ (by rw [hpm.length_eq]; omega) (fun r hr => (hfew r (List.mem_filter.1 (hpm.mem_iff.1 hr)).1).len)), Option.bind_some, compact_wants]
    exact Ev.pure _
theorem combine_neg {p : List Nat} (hp : p ∈ PL) (m : Int) (hm : m < 0) {l : List (List Int)} (hl : l.length ≤ 3) (hx : ∀ x ∈ l, x.length = p.length ∧ ∀ n ∈ x, -9 ≤ n ∧ n ≤ 9) : Ev (fun k => g_Combine.f k (ints p) l m) ([], 3) := by
  have hpl := PL_length hp
  have h1 := checkAll_ev hp l (by omega) (fun x h => by rw [(hx x h).1]; omega)
  have hre : ∀ (q : List (List Int)), (∀ x ∈ q, x.length = p.length ∧ ∀ n ∈ x, -9 ≤ n ∧ n ≤ 9) → rowsErr p.length q = 0 := by
    intro q
    induction q with
    | nil => intro _; rfl
    | cons x t ih =>
      intro h
      have hx := h x List.mem_cons_self
      have hb : big x = false := by
        unfold big
        rw [List.any_eq_false]
        intro n hn
        have := hx.2 n hn
        simp; omega
      rw [rowsErr, if_pos hx.1, hb, if_neg (by decide)]
      exact ih fun y hy => h y (List.mem_cons_of_mem _ hy)
  rw [hre l hx] at h1
  unfold g_Combine.f
  exact Ev.bind h1 (Ev.pos rfl (Ev.pos hm (Ev.pure _)))
end Go.Proofs.YtobdccgpbohpiaaGreatDoor
