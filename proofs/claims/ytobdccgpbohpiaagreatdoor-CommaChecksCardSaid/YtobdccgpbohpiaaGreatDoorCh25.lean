/- Ch: a part of the proof. -/
import Derived.Test.YtobdccgpbohpiaaGreatDoorCh19
import Derived.Test.YtobdccgpbohpiaaGreatDoorCh23
import Derived.Test.YtobdccgpbohpiaaGreatDoorCh24
set_option linter.unusedVariables false
set_option linter.unusedSimpArgs false
namespace Go.Proofs.YtobdccgpbohpiaaGreatDoor
open Go.RowKit Go.Shelf Go.Lib Go.Sort F Go.Proofs.YtobdccgpbohpiaaGreatDoorW.PrintWords Go.Proofs.YtobdccgpbohpiaaGreatDoorW.PrintLast Go.Proofs.YtobdccgpbohpiaaGreatDoorW.PrintMore
def valB (s : ByteArray) : Nat := decVal s.data.toList
def canonB (s : ByteArray) : Bool := decide (s.data.toList = decDigits (valB s)) && decide (s.size ≤ 9)
theorem canonB_D {s : ByteArray} (h : canonB s = true) : s = D (valB s) ∧ nDigits (valB s) ≤ 9 := by
  simp only [canonB, Bool.and_eq_true, decide_eq_true_eq] at h
  have e : s = D (valB s) := by
    have h1 := h.1
    generalize valB s = n at h1
    cases s with
    | mk d =>
      unfold D
      congr 1
      exact Array.toList_inj.1 (by simpa using h1)
  refine ⟨e, ?_⟩
  have h2 := h.2
  rw [e, D_size] at h2
  exact h2
theorem valB_D (n : Nat) : valB (D n) = n := by unfold valB; rw [D_list, decVal_decDigits]
theorem canon_D {n : Nat} (h : nDigits n ≤ 9) : canonB (D n) = true := by
  simp only [canonB, Bool.and_eq_true, decide_eq_true_eq, valB_D, D_list, D_size]
  exact ⟨trivial, h⟩
def cmpSized (a b : S95) : Int := cmpN (valB a.f0 * valB b.f1) (valB b.f0 * valB a.f1)
def fitSized (l : List S95) : Bool := decide (l.length < 4611686018427387904) && l.all fun x => canonB x.f0 && canonB x.f1 && decide (0 < valB x.f1)
def g_sort_sized.f (l : List S95) : Option (List S95) := if fitSized l = true then some (sortL cmpSized z95 l) else none
theorem cmpN_lt (a b : Nat) : cmpN a b < 0 ↔ a < b := by
  unfold cmpN; split
  · simp [*]
  · split <;> simp_all
theorem frac_trans {a b c d e f : Nat} (hb : 0 < b) (hd : 0 < d) (hf : 0 < f) (h1 : a * d < c * b) (h2 : c * f < e * d) : a * f < e * b := by
  have h3 : a * d * f < c * b * f := Nat.mul_lt_mul_of_pos_right h1 hf
  have h4 : c * f * b < e * d * b := Nat.mul_lt_mul_of_pos_right h2 hb
  have h5 : a * f * d < e * b * d := by
    have e1 : a * f * d = a * d * f := by rw [Nat.mul_assoc, Nat.mul_comm f d, ← Nat.mul_assoc]
    have e2 : e * b * d = e * d * b := by rw [Nat.mul_assoc, Nat.mul_comm b d, ← Nat.mul_assoc]
    have e3 : c * b * f = c * f * b := by rw [Nat.mul_assoc, Nat.mul_comm b f, ← Nat.mul_assoc]
    omega
  exact Nat.lt_of_mul_lt_mul_right h5
theorem frac_ntrans {a b c d e f : Nat} (hb : 0 < b) (hd : 0 < d) (hf : 0 < f) (h1 : ¬ a * d < c * b) (h2 : ¬ c * f < e * d) : ¬ a * f < e * b := by
  have h3 : c * b * f ≤ a * d * f := Nat.mul_le_mul_right _ (by omega)
  have h4 : e * d * b ≤ c * f * b := Nat.mul_le_mul_right _ (by omega)
  intro h
  have h5 : a * f * d < e * b * d := Nat.mul_lt_mul_of_pos_right h hd
  have e1 : a * f * d = a * d * f := by rw [Nat.mul_assoc, Nat.mul_comm f d, ← Nat.mul_assoc]
  have e2 : e * b * d = e * d * b := by rw [Nat.mul_assoc, Nat.mul_comm b d, ← Nat.mul_assoc]
  have e3 : c * b * f = c * f * b := by rw [Nat.mul_assoc, Nat.mul_comm b f, ← Nat.mul_assoc]
  omega
theorem sized_order {l : List S95} (h : ∀ x ∈ l, 0 < valB x.f1) : ∀ x ∈ l, ∀ y ∈ l, ∀ q ∈ l, ¬ cmpSized x x < 0 ∧ (cmpSized x y < 0 → cmpSized y q < 0 → cmpSized x q < 0) ∧ (¬ cmpSized x y < 0 → ¬ cmpSized y q < 0 → ¬ cmpSized x q < 0) := by
  intro x hx y hy q hq
  simp only [cmpSized, cmpN_lt]
  exact ⟨by omega, frac_trans (h x hx) (h y hy) (h q hq), frac_ntrans (h x hx) (h y hy) (h q hq)⟩
structure Gro (w w' : World) : Prop where mk :: (out : ∃ q os, w' = grow (w.drewN q) os)
theorem Gro.refl (w : World) : Gro w w := ⟨0, #[], by rw [grow_empty]; rfl⟩
theorem Gro.trans {w w1 w2 : World} (h : Gro w w1) (k : Gro w1 w2) : Gro w w2 := by
  obtain ⟨⟨q, os, rfl⟩⟩ := h
  obtain ⟨⟨q', os', rfl⟩⟩ := k
  refine ⟨q + q', os ++ os', ?_⟩
  rw [← grow_grow]
  show grow ((grow (w.drewN q) os).drewN q') os' = grow (grow (w.drewN (q + q')) os) os'
  rw [← World.drewN_drewN]; rfl
theorem Gro.drewN {w w1 : World} (h : Gro w w1) (n : Nat) : Gro w (w1.drewN n) := h.trans ⟨n, #[], by rw [grow_empty]⟩
theorem Gro.alloc {w w1 : World} (h : Gro w w1) (o : Obj) : Gro w (w1.alloc o) := h.trans ⟨0, #[o], by rw [alloc_eq_grow]; rfl⟩
theorem Gro.of0 {w w1 : World} (h : Drawn0 w w1) : Gro w w1 := by
  obtain ⟨n, rfl⟩ := h.out
  exact (Gro.refl w).drewN n
theorem Gro.below {w w1 : World} (h : Gro w w1) : Below w.heap.size w w1 := by
  obtain ⟨⟨q, os, rfl⟩⟩ := h
  exact bel_grow _ _ _
theorem bytesWorld_gro (w : World) (e : TypeId) (s : ByteArray) : Gro w (Lib.bytesWorld w e s) := by
  refine ⟨1, #[.cells (Lib.bytesCells w e s) e ((Lib.bytesCells w e s).size, (Lib.bytesCells w e s).size + 1)], ?_⟩
  have hh : (Lib.bytesWorld w e s).heap = w.heap ++ #[.cells (Lib.bytesCells w e s) e ((Lib.bytesCells w e s).size, (Lib.bytesCells w e s).size + 1)] := by
    apply Array.ext_getElem?
    intro k
    rcases Nat.lt_trichotomy k w.heap.size with h | h | h
    · rw [Lib.bytesWorld_at_old w e s k h, Array.getElem?_append_left h]
    · subst h
      rw [Lib.bytesWorld_at_new, Array.getElem?_append_right (Nat.le_refl _), Nat.sub_self]; rfl
    · rw [Array.getElem?_eq_none (by rw [Lib.bytesWorld_size]; omega), Array.getElem?_eq_none (by simp; omega)]
  have ext : ∀ a b : World, a.heap = b.heap → a.tape = b.tape → a.drawn = b.drawn → a.os = b.os → a.output = b.output → a = b := by
    intro a b h1 h2 h3 h4 h5
    cases a; cases b; simp_all
  exact ext _ _ hh rfl rfl rfl rfl
set_option maxHeartbeats 1000000 in
theorem little9 (n : Nat) (h : nDigits n ≤ 9) (w : World) : Calls Tryz.prog 78 #[.string (D n), .int .i64 9] w fun e w' => e = .returned (.tuple #[.int .i64 (n : Int), .bool true]) ∧ Gro w w' := by
  have hs : (D n).size ≤ 9 := by rw [D_size]; exact h
  have hv := atoi_D (Nat.lt_of_lt_of_le (lt_of_digits h) (by decide : 10 ^ 9 ≤ 1000000000000000000))
  rw [← D_list] at hv
  have hc := (Tryz.strconv_Atoi_ok (D n) (by omega) n hv w).mono (R' := fun e w' => e = .returned (.tuple #[.int .i64 (n : Int), .nilIface]) ∧ Gro w w') (fun e w' ⟨he, hw⟩ => ⟨he, by rcases hw with rfl | ⟨t, rfl⟩; exact Gro.refl _; exact bytesWorld_gro _ _ _⟩)
  clear h hv
  generalize D n = a0 at hs hc ⊢
  have h1 : ¬ ((a0.size : Int) > 9) := by omega
  clear hs
  go_enter Tryz.func78, Tryz.ntmps78
  go_wp2_with (go_at_call 110; refine hc.mono ?_; rintro e w' ⟨rfl, hb⟩)
  have HB := Aside0.mk hb
  clear hb
  go_quiet (fail)
  go_wp2
  go_ret2
  exact ⟨rfl, Gro.drewN HB.out _⟩
set_option maxHeartbeats 1000000 in
theorem ofG (n : Nat) (hn : n ≤ 9223372036854775807) (w : World) (hG : Glob w) : Calls Tryz.prog 41 #[.int .i64 (n : Int)] w fun e w' => e = .returned (.string (D n)) ∧ Gro w w' := by
  have hc := (Tryz.strconv_Itoa (n : Int) (by omega) (by omega) w hG.tab).mono (R' := fun e w' => e = .returned (.string (D n)) ∧ Gro w w') (fun e w' ⟨he, k, os, hw⟩ => ⟨by rw [he, itoa_nonneg]; rfl, ⟨k, os, hw⟩⟩)
  clear hG hn
  generalize D n = r at hc ⊢
  generalize (n : Int) = a0 at hc ⊢
  go_enter Tryz.func41, Tryz.ntmps41
  go_wp2_with (go_at_call 81; refine hc.mono ?_; rintro e w' ⟨rfl, hb⟩)
  go_ret
  exact ⟨rfl, hb⟩
set_option maxRecDepth 100000 in
set_option maxHeartbeats 1000000 in
theorem mulG (a b : Nat) (ha : nDigits a ≤ 9) (hb : nDigits b ≤ 9) (w : World) (hG : Glob w) : Calls Tryz.prog 40 #[.string (D a), .string (D b)] w fun e w' => e = .returned (.string (D (a * b))) ∧ Gro w w' := by
  have hA := lt_of_digits ha
  have hB := lt_of_digits hb
  have hab : a * b < 10 ^ 9 * 10 ^ 9 := Nat.mul_lt_mul'' hA hB
  have hw : wrap64 ((a : Int) * (b : Int)) = ((a * b : Nat) : Int) := by rw [← Int.natCast_mul]; exact wrap64_id (by omega)
  have h1 := fun W => little9 a ha W
  have h2 := fun W => little9 b hb W
  have h3 := fun W (hg : Glob W) => ofG (a * b) (by omega) W hg
  rw [← hw] at h3
  have H3 := Aside0.mk h3
  have H1 := Aside0.mk h1
  have H2 := Aside0.mk h2
  have HG := Aside0.mk hG
  clear h1 h2 h3 hw hab hA hB ha hb hG
  generalize D (a * b) = r at H3 ⊢
  generalize D a = s at H1 ⊢
  generalize D b = t at H2 ⊢
  generalize (a : Int) = x at H1 H3
  generalize (b : Int) = y at H2 H3
  go_enter Tryz.func40, Tryz.ntmps40
  go_wp2_with (first | (go_at_call 78; first | (with_reducible refine (H1.out _).mono ?_; rintro e w1 ⟨rfl, g1⟩) | (with_reducible refine (H2.out _).mono ?_; rintro e w2 ⟨rfl, g2⟩)) | (go_at_call 41; with_reducible refine (H3.out _ (HG.out.below ((g1.trans g2).below))).mono ?_; rintro e w3 ⟨rfl, g3⟩))
  go_ret
  exact ⟨rfl, (g1.trans g2).trans g3⟩
set_option maxRecDepth 100000 in
set_option maxHeartbeats 1000000 in
theorem cmpG (a b : Nat) (ha : nDigits a ≤ 1000000000000) (hb : nDigits b ≤ 1000000000000) (w : World) : Calls Tryz.prog 37 #[.string (D a), .string (D b)] w fun e w' => e = .returned (.int .i64 (cmpN a b)) ∧ Gro w w' := by
  have s1 := fun W => (whole_Sign.calls (D a) _ W (sign_D a)).mono (R' := fun e w' => e = .returned (.int .i64 (if a = 0 then 0 else 1)) ∧ Gro W w') fun _ _ ⟨he, hw⟩ => ⟨he, Gro.of0 hw⟩
  have s2 := fun W => (whole_Sign.calls (D b) _ W (sign_D b)).mono (R' := fun e w' => e = .returned (.int .i64 (if b = 0 then 0 else 1)) ∧ Gro W w') fun _ _ ⟨he, hw⟩ => ⟨he, Gro.of0 hw⟩
  have p1 := fun W => (whole_split.calls (D a) false (D a) W (split_D a)).mono (R' := fun e w' => e = .returned (.tuple #[.bool false, .string (D a)]) ∧ Gro W w') fun _ _ ⟨he, hw⟩ => ⟨he, Gro.of0 hw⟩
  have p2 := fun W => (whole_split.calls (D b) false (D b) W (split_D b)).mono (R' := fun e w' => e = .returned (.tuple #[.bool false, .string (D b)]) ∧ Gro W w') fun _ _ ⟨he, hw⟩ => ⟨he, Gro.of0 hw⟩
  have c := fun W => g_decimal_Compare.same (D a) (D b) _ W (dCmp_D a b ha hb)
  have hcm : ∀ x y : Int, x = (if a = 0 then 0 else 1) → y = (if b = 0 then 0 else 1) → (x < y → cmpN a b = -1) ∧ (¬ x = y → ¬ x < y → cmpN a b = 1) := by
    intro x y hx hy
    subst hx hy
    unfold cmpN
    by_cases h1 : a = 0 <;> by_cases h2 : b = 0 <;> simp [h1, h2] <;> omega
  have hb1 : (if a = 0 then (0 : Int) else 1) = 0 ∨ (if a = 0 then (0 : Int) else 1) = 1 := by split <;> simp
  have hb2 : (if b = 0 then (0 : Int) else 1) = 0 ∨ (if b = 0 then (0 : Int) else 1) = 1 := by split <;> simp
  replace s1 := Aside0.mk s1
  replace s2 := Aside0.mk s2
  replace p1 := Aside0.mk p1
  replace p2 := Aside0.mk p2
  replace c := Aside0.mk c
  generalize D a = s at s1 p1 c ⊢
  generalize D b = t at s2 p2 c ⊢
  generalize (if a = 0 then (0 : Int) else 1) = x at s1 hcm hb1
  generalize (if b = 0 then (0 : Int) else 1) = y at s2 hcm hb2
  obtain ⟨h1, h2⟩ := hcm x y rfl rfl
  clear hcm ha hb hb1 hb2
  generalize cmpN a b = r at c h1 h2 ⊢
  by_cases hxy : x = y
  · subst hxy
    clear h1 h2
    have e1 : (x == x) = true := by simp
    have e2 : (x != x) = false := by simp
    go_enter Tryz.func37, Tryz.ntmps37
    go_wp2_with (first | (go_at_call 73; first | (with_reducible refine (s1.out _).mono ?_; rintro e w1 ⟨rfl, g1⟩) | (with_reducible refine (s2.out _).mono ?_; rintro e w2 ⟨rfl, g2⟩)) | (go_at_call 74; first | (with_reducible refine (p1.out _).mono ?_; rintro e w3 ⟨rfl, g3⟩) | (with_reducible refine (p2.out _).mono ?_; rintro e w4 ⟨rfl, g4⟩)) | (go_at_call 56; with_reducible refine (c.out _).mono ?_; rintro e w5 ⟨rfl, rfl⟩))
    go_ret
    exact ⟨rfl, ((g1.trans g2).trans g3).trans g4⟩
  · have e1 : (x == y) = false := by simp [hxy]
    have e2 : (x != y) = true := by simp [hxy]
    by_cases hlt : x < y
    · have hr := h1 hlt
      subst hr
      have e3 : decide (x < y) = true := decide_eq_true hlt
      clear h1 h2
      go_enter Tryz.func37, Tryz.ntmps37
      go_wp2_with (first | (go_at_call 73; first | (with_reducible refine (s1.out _).mono ?_; rintro e w1 ⟨rfl, g1⟩) | (with_reducible refine (s2.out _).mono ?_; rintro e w2 ⟨rfl, g2⟩)))
      go_ret
      exact ⟨rfl, g1.trans g2⟩
    · have hr := h2 hxy hlt
      subst hr
      have e3 : decide (x < y) = false := decide_eq_false hlt
      clear h1 h2
      go_enter Tryz.func37, Tryz.ntmps37
      go_wp2_with (first | (go_at_call 73; first | (with_reducible refine (s1.out _).mono ?_; rintro e w1 ⟨rfl, g1⟩) | (with_reducible refine (s2.out _).mono ?_; rintro e w2 ⟨rfl, g2⟩)))
      go_ret
      exact ⟨rfl, g1.trans g2⟩
set_option maxRecDepth 100000 in
set_option maxHeartbeats 2000000 in
theorem sized_closure (a b c d : ByteArray) (u v : Value) (W : World) (hG : Glob W) (ha : canonB a = true) (hb : canonB b = true) (hc : canonB c = true) (hd : canonB d = true) :
    Calls Tryz.prog 48 #[.agg #[.string a, .string b, u], .agg #[.string c, .string d, v]] W fun e w' => e = .returned (.int .i64 (cmpN (valB a * valB d) (valB c * valB b))) ∧ Gro W w' := by
  obtain ⟨ea, da⟩ := canonB_D ha
  obtain ⟨eb, db⟩ := canonB_D hb
  obtain ⟨ec, dc⟩ := canonB_D hc
  obtain ⟨ed, dd⟩ := canonB_D hd
  generalize valB a = na at ea da ⊢
  generalize valB b = nb at eb db ⊢
  generalize valB c = nc at ec dc ⊢
  generalize valB d = nd at ed dd ⊢
  subst ea eb ec ed
  have m1 := fun W hg => mulG na nd da dd W hg
  have m2 := fun W hg => mulG nc nb dc db W hg
  have d1 := digits_mul na nd
  have d2 := digits_mul nc nb
  have c1 := fun W => cmpG (na * nd) (nc * nb) (by omega) (by omega) W
  have M1 := Aside0.mk m1
  have M2 := Aside0.mk m2
  have HG := Aside0.mk hG
  clear d1 d2 da db dc dd ha hb hc hd m1 m2 hG
  replace c1 := Aside0.mk c1
  generalize cmpN (na * nd) (nc * nb) = r at c1 ⊢
  generalize D (na * nd) = s at M1 c1
  generalize D (nc * nb) = t at M2 c1
  generalize D na = xa at M1 ⊢
  generalize D nb = xb at M2 ⊢
  generalize D nc = xc at M2 ⊢
  generalize D nd = xd at M1 ⊢
  have hu95 := Tryz.underlying95
  have mixed : Tryz.prog.follows .mixedOrders = true := by kernel_rfl
  obtain ⟨W2, hW2⟩ : ∃ W2, W2 = (W.alloc (.cells #[.string xa, .string xb, u] 95)).alloc (.cells #[.string xc, .string xd, v] 95) := ⟨_, rfl⟩
  have hsz : W2.heap.size = W.heap.size + 2 := by rw [hW2]; simp [World.alloc, -World.alloc_eq]
  have f1 : ∀ n os, (grow (W2.drewN n) os).cell? ⟨W.heap.size, 0, none⟩ = some (.string xa) := cell_grown (by show W.heap.size < _; omega) (by rw [hW2]; simp [World.cell?, World.alloc, -World.alloc_eq, Array.getElem?_push])
  have f2 : ∀ n os, (grow (W2.drewN n) os).cell? ⟨W.heap.size, 1, none⟩ = some (.string xb) := cell_grown (by show W.heap.size < _; omega) (by rw [hW2]; simp [World.cell?, World.alloc, -World.alloc_eq, Array.getElem?_push])
  have hb1 : W2.heap[W.heap.size + 1]? = some (.cells #[.string xc, .string xd, v] 95) := by
    rw [hW2]
    have := Array.getElem?_push_size (xs := W.heap.push (.cells #[.string xa, .string xb, u] 95)) (x := Obj.cells #[.string xc, .string xd, v] 95)
    rwa [Array.size_push] at this
  have f3 : ∀ n os, (grow (W2.drewN n) os).cell? ⟨W.heap.size + 1, 0, none⟩ = some (.string xc) := cell_grown (by show W.heap.size + 1 < _; omega) (by simp [World.cell?, hb1])
  have f4 : ∀ n os, (grow (W2.drewN n) os).cell? ⟨W.heap.size + 1, 1, none⟩ = some (.string xd) := cell_grown (by show W.heap.size + 1 < _; omega) (by simp [World.cell?, hb1])
  have hgr : Gro W W2 := by rw [hW2]; exact ((Gro.refl W).alloc _).alloc _
  have HGR := Aside0.mk hgr
  have HGs : Aside0 (∀ n os, Glob (grow (W2.drewN n) os)) := ⟨fun n os => HG.out.below ((hgr.trans ⟨n, os, rfl⟩).below)⟩
  have HW2 := Aside0.mk hW2
  have N1 : Aside0 (∀ n os, Calls Tryz.prog 40 #[.string xa, .string xd] (grow (W2.drewN n) os) fun e w' => e = .returned (.string s) ∧ ∃ q os', w' = grow ((grow (W2.drewN n) os).drewN q) os') := ⟨fun n os => (M1.out _ (HGs.out n os)).mono fun _ _ h => ⟨h.1, h.2.out⟩⟩
  have N2 : Aside0 (∀ n os, Calls Tryz.prog 40 #[.string xc, .string xb] (grow (W2.drewN n) os) fun e w' => e = .returned (.string t) ∧ ∃ q os', w' = grow ((grow (W2.drewN n) os).drewN q) os') := ⟨fun n os => (M2.out _ (HGs.out n os)).mono fun _ _ h => ⟨h.1, h.2.out⟩⟩
  have N3 : Aside0 (∀ n os, Calls Tryz.prog 37 #[.string s, .string t] (grow (W2.drewN n) os) fun e w' => e = .returned (.int .i64 r) ∧ ∃ q os', w' = grow ((grow (W2.drewN n) os).drewN q) os') := ⟨fun n os => (c1.out _).mono fun _ _ h => ⟨h.1, h.2.out⟩⟩
  clear hgr hsz hW2 hb1 M1 M2 c1
  go_enter Tryz.func48, Tryz.ntmps48
  go_wp2
  rw [← HW2.out]
  go_quiet_grown (first | (go_at_call 40; first | (with_reducible refine Calls.grown_of (N1.out _ _)) | (with_reducible refine Calls.grown_of (N2.out _ _))) | (go_at_call 37; with_reducible refine Calls.grown_of (N3.out _ _)))
  go_wp2
  go_ret
  exact ⟨rfl, HGR.out.trans ⟨_, _, rfl⟩⟩
theorem g_sort_sized.calls {w0 : World} {ok : Nat → Prop} {W : World} {A : Option Addr} {n c : Nat} {l r : List S95} (hG : Glob w0) (HB : RowKit.Below w0.heap.size w0 W) (h : Kd.N k95 95 W w0.heap.size ok (.slice A n c) l) (hf : g_sort_sized.f l = some r) :
    Calls Tryz.prog 47 #[.slice A n c, .func (.func 48) #[] #[]] W fun e w' => e = .returned (.tuple #[]) ∧ Kd.N k95 95 w' w0.heap.size ok (.slice A n c) r ∧ RowKit.Below w0.heap.size W w' ∧ W.grownBy w' (Value.slice A n c).ownBlock := by
  unfold g_sort_sized.f at hf
  split at hf
  · rename_i hfit
    obtain rfl := Option.some.inj hf
    simp only [fitSized, Bool.and_eq_true, decide_eq_true_eq, List.all_eq_true] at hfit
    obtain ⟨hlen, hall⟩ := hfit
    have eg : ∀ args w, (callFunc 48 args).run Tryz.prog w = .ok (.enter 48 args) w := enters_of Tryz.func48 (by kernel_rfl) rfl
    have := N_sortK (d := k95) (P := Tryz.prog) Tryz.sortSized Tryz.isAgg95 Tryz.sizeOf95 cmpSized z95 48 eg h hlen (sized_order (fun x hx => (hall x hx).2)) (fun W' x y cx cy hb _ hx hy fx fy => by
      obtain ⟨A1, c1, rfl, _, _⟩ := k95_openF fx
      obtain ⟨A2, c2, rfl, _, _⟩ := k95_openF fy
      exact (sized_closure x.f0 x.f1 y.f0 y.f1 _ _ W' (hG.below (HB.trans hb)) (hall x hx).1.1 (hall x hx).1.2 (hall y hy).1.1 (hall y hy).1.2).mono fun _ _ h => ⟨h.1, h.2.out⟩)
    exact this
  · cases hf
end Go.Proofs.YtobdccgpbohpiaaGreatDoor
