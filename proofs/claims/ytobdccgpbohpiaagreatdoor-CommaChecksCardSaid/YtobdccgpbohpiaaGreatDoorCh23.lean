/- Ch: a part of the proof. -/
import Derived.KernelRfl
import Derived.Laws.BitsLemmas
import Derived.Test.YtobdccgpbohpiaaGreatDoorCh14
import Derived.Test.YtobdccgpbohpiaaGreatDoorCh15
import Derived.Test.YtobdccgpbohpiaaGreatDoorCh16
import Derived.Test.YtobdccgpbohpiaaGreatDoorCh19
import Derived.Test.YtobdccgpbohpiaaGreatDoorCh20
import Derived.Test.YtobdccgpbohpiaaGreatDoorCh22
import Derived.Test.YtobdccgpbohpiaaGreatDoorCh5
set_option linter.unusedVariables false
set_option linter.unusedSimpArgs false
namespace Go.Proofs.YtobdccgpbohpiaaGreatDoor
def Ev {α : Type} (g : Nat → Option α) (r : α) : Prop := ∃ k0, ∀ k, k0 ≤ k → g k = some r
theorem Ev.const {α : Type} {r : α} {x : Option α} (h : x = some r) : Ev (fun _ => x) r := ⟨0, fun _ _ => h⟩
theorem Ev.pure {α : Type} (r : α) : Ev (fun _ => some r) r := ⟨0, fun _ _ => rfl⟩
theorem Ev.bind {α β : Type} {a : Nat → Option α} {b : Nat → α → Option β} {t : α} {r : β} (ha : Ev a t) (hb : Ev (fun k => b k t) r) : Ev (fun k => (a k).bind (b k)) r := by
  obtain ⟨k1, h1⟩ := ha
  obtain ⟨k2, h2⟩ := hb
  refine ⟨max k1 k2, fun k hk => ?_⟩
  show (a k).bind (b k) = some r
  rw [h1 k (by omega)]
  exact h2 k (by omega)
theorem Ev.succ {α : Type} {g h : Nat → Option α} {r : α} (hs : ∀ k, g (k + 1) = h k) (hh : Ev h r) : Ev g r := by
  obtain ⟨k1, h1⟩ := hh
  refine ⟨k1 + 1, fun k hk => ?_⟩
  obtain ⟨k', rfl⟩ : ∃ k', k = k' + 1 := ⟨k - 1, by omega⟩
  rw [hs]
  exact h1 k' (by omega)
theorem Ev.congr {α : Type} {g h : Nat → Option α} {r : α} (hs : ∀ k, g k = h k) (hh : Ev h r) : Ev g r := by
  obtain ⟨k1, h1⟩ := hh
  exact ⟨k1, fun k hk => (hs k).trans (h1 k hk)⟩
theorem Ev.pos {α : Type} {c : Prop} [Decidable c] {g h : Nat → Option α} {r : α} (hc : c) (hh : Ev g r) : Ev (fun k => if c then g k else h k) r := by
  simpa only [if_pos hc] using hh
theorem Ev.neg {α : Type} {c : Prop} [Decidable c] {g h : Nat → Option α} {r : α} (hc : ¬ c) (hh : Ev h r) : Ev (fun k => if c then g k else h k) r := by
  simpa only [if_neg hc] using hh
def VB : List Int → Int
  | [] => 0
  | c :: t => c + 1000000000 * VB t
def okB (l : List Int) : Prop := ∀ c ∈ l, 0 ≤ c ∧ c < 1000000000
theorem VB_nonneg {l : List Int} (h : okB l) : 0 ≤ VB l := by
  induction l with
  | nil => exact Int.le_refl _
  | cons c t ih =>
    have h1 := h c (List.mem_cons_self)
    have h2 := ih (fun x hx => h x (List.mem_cons_of_mem _ hx))
    simp only [VB]; omega
theorem okB_cons {c : Int} {t : List Int} (h : okB (c :: t)) : (0 ≤ c ∧ c < 1000000000) ∧ okB t := ⟨h c List.mem_cons_self, fun x hx => h x (List.mem_cons_of_mem _ hx)⟩
theorem okB_pcs (n : Nat) : okB (pcs n) ∧ VB (pcs n) = n := by
  induction n using Nat.strongRecOn with
  | _ n ih =>
    rw [pcs]
    by_cases h : n = 0
    · rw [dif_pos h]
      subst h
      exact ⟨fun c hc => by simp at hc, rfl⟩
    · rw [dif_neg h]
      obtain ⟨h1, h2⟩ := ih (n / 1000000000) (by omega)
      refine ⟨fun c hc => ?_, ?_⟩
      · rcases List.mem_cons.1 hc with rfl | hc
        · omega
        · exact h1 c hc
      · simp only [VB, h2]; omega
theorem trimL_VB {l : List Int} (h : okB l) : trimL l = pcs (VB l).toNat := by
  induction l with
  | nil => rw [pcs]; rfl
  | cons c t ih =>
    obtain ⟨⟨h1, h2⟩, h3⟩ := okB_cons h
    have ih2 := ih h3
    have hn := VB_nonneg h3
    simp only [trimL, ih2, VB]
    generalize VB t = q at hn
    obtain ⟨q', rfl⟩ := Int.eq_ofNat_of_zero_le hn
    obtain ⟨c', rfl⟩ := Int.eq_ofNat_of_zero_le h1
    have e : ((c' : Int) + 1000000000 * (q' : Int)).toNat = q' * 1000000000 + c' := by omega
    rw [e, Int.toNat_natCast]
    by_cases hz : q' = 0 ∧ c' = 0
    · obtain ⟨rfl, rfl⟩ := hz
      have hp : pcs 0 = [] := by rw [pcs, dif_pos rfl]
      rw [Nat.zero_mul, Nat.zero_add, hp]; rfl
    · rw [pcs_step q' c' (by omega) (by omega)]
      by_cases hq : q' = 0
      · subst hq
        have hp : pcs 0 = [] := by rw [pcs, dif_pos rfl]
        rw [hp]
        simp only
        rw [if_neg (by omega)]
      · have hp : pcs q' = ((q' % 1000000000 : Nat) : Int) :: pcs (q' / 1000000000) := by conv => lhs; rw [pcs]; rw [dif_neg hq]
        rw [hp]
theorem okB_set {l : List Int} (h : okB l) (i : Nat) {v : Int} (hv : 0 ≤ v ∧ v < 1000000000) : okB (l.set i v) := by
  intro c hc
  rcases List.mem_or_eq_of_mem_set hc with hc | rfl
  · exact h c hc
  · exact hv
theorem VB_set (l : List Int) (i : Nat) (v : Int) (hi : i < l.length) : VB (l.set i v) = VB l + (v - l.getD i 0) * 1000000000 ^ i := by
  induction l generalizing i with
  | nil => simp at hi
  | cons c t ih =>
    cases i with
    | zero => simp only [List.set_cons_zero, VB, List.getD_cons_zero, Int.pow_zero]; omega
    | succ i =>
      simp only [List.length_cons] at hi
      simp only [List.set_cons_succ, VB, List.getD_cons_succ]
      rw [ih i (by omega), Int.pow_succ, Int.mul_add]
      have : 1000000000 * ((v - t.getD i 0) * 1000000000 ^ i) = (v - t.getD i 0) * (1000000000 ^ i * 1000000000) := by
        rw [Int.mul_comm 1000000000, Int.mul_assoc]
      rw [this]; omega
theorem VB_zeros (n : Nat) : VB (List.replicate n 0) = 0 := by
  induction n with
  | zero => rfl
  | succ n ih => rw [List.replicate_succ, VB, ih]; rfl
theorem VB_drop {q : List Int} {k : Nat} (hk : k < q.length) : VB (q.drop k) = q.getD k 0 + 1000000000 * VB (q.drop (k + 1)) := by
  rw [List.drop_eq_getElem_cons hk, VB, List.getD_eq_getElem?_getD, List.getElem?_eq_getElem hk]; rfl
end Go.Proofs.YtobdccgpbohpiaaGreatDoor
set_option linter.unusedVariables false
set_option linter.unusedSimpArgs false
namespace Go.Proofs.YtobdccgpbohpiaaGreatDoor
open Go.RowKit F Go.Proofs.YtobdccgpbohpiaaGreatDoorW.PrintWords Go.Proofs.YtobdccgpbohpiaaGreatDoorW.PrintLast Go.Proofs.YtobdccgpbohpiaaGreatDoorW.PrintMore
theorem Ev.mono {α : Type} {g : Nat → Option α} {r : α} (hm : ∀ k, LeO (g k) (g (k + 1))) {k : Nat} (h : g k = some r) : Ev g r := by
  refine ⟨k, fun k' hk => ?_⟩
  obtain ⟨d, rfl⟩ : ∃ d, k' = k + d := ⟨k' - k, by omega⟩
  induction d with
  | zero => exact h
  | succ d ih => exact hm _ _ (ih (by omega))
theorem trim_ev {l : List Int} (hl : l.length < 9223372036854775807) : Ev (fun k => decimal_pieces_trim.f k l) (trimL l) :=
  Ev.mono (fun k => decimal_pieces_trim.mono l k) (trim_eq l hl)
theorem rd_nat (l : List Int) (i : Nat) : rd l (i : Int) = l.getD i 0 := by
  simp [rd]
theorem wrap64_id {x : Int} (h : -9223372036854775808 ≤ x ∧ x ≤ 9223372036854775807) : wrap64 x = x := by unfold wrap64; omega
theorem wrapU_id {x : Int} (h : 0 ≤ x ∧ x < 18446744073709551616) : IntKind.u64.wrap x = x := by rw [IntKind.wrap_u64]; omega
theorem times_row (q p : List Int) (i : Nat) (a : Int) (hq : okB q) (ha : 0 ≤ a ∧ a < 1000000000) (hlim : p.length + q.length < 1000000000000) (hi : i < p.length) (r : List Int) :
    ∀ (m kk : Nat) (out : List Int) (carry : Int), kk + m = q.length → okB out → out.length = p.length + q.length → (0 ≤ carry ∧ carry < 1000000000) →
      ∃ out', okB out' ∧ out'.length = p.length + q.length ∧ VB out' = VB out + 1000000000 ^ (i + kk) * (a * VB (q.drop kk) + carry) - out.getD (i + q.length) 0 * 1000000000 ^ (i + q.length) ∧ (∀ j, i + q.length < j → out'.getD j 0 = out.getD j 0) ∧
        (Ev (fun k => decimal_pieces_times.l0 k q out' p (p.length : Int) ((i : Int) + 1)) r → Ev (fun k => decimal_pieces_times.l1 k q out i a carry p (p.length : Int) i q (q.length : Int) kk) r) := by
  intro m
  induction m with
  | zero =>
    intro kk out carry hk hok hlen hc
    have hkk : kk = q.length := by omega
    subst hkk
    refine ⟨out.set (i + q.length) carry, okB_set hok _ hc, by simp [hlen], ?_, fun j hj => ?_, fun h => ?_⟩
    · rw [VB_set _ _ _ (by omega), List.drop_length, VB, Int.mul_zero, Int.zero_add, Int.sub_mul, Int.mul_comm (1000000000 ^ _)]; omega
    · rw [List.getD_eq_getElem?_getD, List.getD_eq_getElem?_getD, List.getElem?_set_ne (by omega)]
    · refine Ev.succ (fun k => by rw [decimal_pieces_times.l1]) ?_
      have hw : wrap64 ((i : Int) + (q.length : Int)) = ((i + q.length : Nat) : Int) := by rw [wrap64_id (by omega)]; omega
      have hw2 : wrap64 ((i : Int) + 1) = (i : Int) + 1 := wrap64_id (by omega)
      rw [hw, hw2, Int.toNat_natCast]
      refine Ev.neg (by omega) (Ev.pos (by omega) (Ev.pos (by omega) h))
  | succ m ih =>
    intro kk out carry hk hok hlen hc
    have hqk := VB_drop (q := q) (k := kk) (by omega)
    have hqb : 0 ≤ q.getD kk 0 ∧ q.getD kk 0 < 1000000000 := by
      rw [List.getD_eq_getElem?_getD, List.getElem?_eq_getElem (by omega)]; exact hq _ (List.getElem_mem _)
    have hob : 0 ≤ out.getD (i + kk) 0 ∧ out.getD (i + kk) 0 < 1000000000 := by
      rw [List.getD_eq_getElem?_getD, List.getElem?_eq_getElem (by omega)]; exact hok _ (List.getElem_mem _)
    obtain ⟨s, hs⟩ : ∃ s, s = carry + (out.getD (i + kk) 0 + a * q.getD kk 0) := ⟨_, rfl⟩
    have hab : 0 ≤ a * q.getD kk 0 ∧ a * q.getD kk 0 ≤ 999999999 * 999999999 := by
      constructor
      · exact Int.mul_nonneg ha.1 hqb.1
      · exact Int.mul_le_mul (by omega) (by omega) hqb.1 (by omega)
    have hs0 : 0 ≤ s ∧ s < 1000000000000000000 := by omega
    obtain ⟨out', h1, h2, h3, h4, h5⟩ := ih (kk + 1) (out.set (i + kk) (s % 1000000000)) (s / 1000000000) (by omega) (okB_set hok _ (by omega)) (by simp [hlen]) (by omega)
    refine ⟨out', h1, h2, ?_, fun j hj => ?_, fun h => ?_⟩
    · rw [h3, VB_set _ _ _ (by omega), hqk]
      have hg : (out.set (i + kk) (s % 1000000000)).getD (i + q.length) 0 = out.getD (i + q.length) 0 := by
        rw [List.getD_eq_getElem?_getD, List.getD_eq_getElem?_getD, List.getElem?_set_ne (by omega)]
      rw [hg, show i + (kk + 1) = i + kk + 1 by omega, Int.pow_succ]
      generalize (1000000000 : Int) ^ (i + kk) = E
      generalize (1000000000 : Int) ^ (i + q.length) = E2
      generalize VB (q.drop (kk + 1)) = v
      generalize VB out = vo
      generalize out.getD (i + q.length) 0 * E2 = z
      have hsp : s = s % 1000000000 + 1000000000 * (s / 1000000000) := by omega
      generalize s % 1000000000 = s1 at hsp
      generalize s / 1000000000 = s2 at hsp
      generalize q.getD kk 0 = qk at hs
      generalize out.getD (i + kk) 0 = o at hs
      have e1 : (s1 - o) * E + E * 1000000000 * (a * v + s2) = E * (a * (qk + 1000000000 * v) + carry) := by
        have hs1 : s1 = carry + (o + a * qk) - 1000000000 * s2 := by omega
        subst hs1
        simp only [Int.sub_mul, Int.add_mul, Int.mul_add, Int.mul_sub, Int.mul_assoc, Int.mul_comm, Int.mul_left_comm]
        omega
      omega
    · rw [h4 j hj, List.getD_eq_getElem?_getD, List.getD_eq_getElem?_getD, List.getElem?_set_ne (by omega)]
    · clear h3 h4 hqk ih
      refine Ev.succ (fun k => by rw [decimal_pieces_times.l1]) ?_
      have hw : wrap64 ((i : Int) + (kk : Int)) = ((i + kk : Nat) : Int) := by rw [wrap64_id (by omega)]; omega
      have hw2 : wrap64 ((kk : Int) + 1) = ((kk + 1 : Nat) : Int) := by rw [wrap64_id (by omega)]; omega
      rw [hw, hw2, rd_nat, rd_nat, Int.toNat_natCast]
      have e1 : IntKind.u64.wrap (a * q.getD kk 0) = a * q.getD kk 0 := wrapU_id (by omega)
      have e2 : IntKind.u64.wrap (out.getD (i + kk) 0 + a * q.getD kk 0) = out.getD (i + kk) 0 + a * q.getD kk 0 := wrapU_id (by omega)
      have e3 : IntKind.u64.wrap (carry + (out.getD (i + kk) 0 + a * q.getD kk 0)) = s := by rw [← hs]; exact wrapU_id (by omega)
      rw [e1, e2, e3, Int.tdiv_eq_ediv_of_nonneg hs0.1, Int.tmod_eq_emod_of_nonneg hs0.1, wrapU_id (x := s / 1000000000) (by omega)]
      have h6 := h5 h
      clear e1 e2 e3 hw hw2 h5 h hs hs0 hab hob hqb
      exact Ev.pos (by omega) (Ev.pos (by omega) (Ev.pos (by omega) (Ev.pos (by omega) (Ev.pos (by omega) h6))))
theorem times_rows (q p : List Int) (hq : okB q) (hp : okB p) (hlim : p.length + q.length < 1000000000000) :
    ∀ (m i : Nat) (out : List Int), i + m = p.length → okB out → out.length = p.length + q.length → (∀ j, i + q.length ≤ j → out.getD j 0 = 0) →
      Ev (fun k => decimal_pieces_times.l0 k q out p (p.length : Int) i) (pcs (VB out + 1000000000 ^ i * (VB (p.drop i) * VB q)).toNat) := by
  intro m
  induction m with
  | zero =>
    intro i out hi hok hlen hz
    have hii : i = p.length := by omega
    subst hii
    refine Ev.succ (fun k => by rw [decimal_pieces_times.l0]) ?_
    rw [List.drop_length, VB, Int.zero_mul, Int.mul_zero, Int.add_zero, ← trimL_VB hok]
    refine Ev.neg (by omega) ?_
    exact Ev.bind (trim_ev (by omega)) (Ev.pure _)
  | succ m ih =>
    intro i out hi hok hlen hz
    have ha : 0 ≤ p.getD i 0 ∧ p.getD i 0 < 1000000000 := by
      rw [List.getD_eq_getElem?_getD, List.getElem?_eq_getElem (by omega)]; exact hp _ (List.getElem_mem _)
    obtain ⟨out', h1, h2, h3, h4, h5⟩ := times_row q p i (p.getD i 0) hq ha hlim (by omega) (pcs (VB out + 1000000000 ^ i * (VB (p.drop i) * VB q)).toNat) q.length 0 out 0 (by omega) hok hlen (by omega)
    have hv : VB out' + 1000000000 ^ (i + 1) * (VB (p.drop (i + 1)) * VB q) = VB out + 1000000000 ^ i * (VB (p.drop i) * VB q) := by
      rw [h3, hz _ (Nat.le_refl _), VB_drop (q := p) (k := i) (by omega), List.drop_zero, Nat.add_zero, Int.zero_mul, Int.sub_zero, Int.add_zero, Int.pow_succ]
      generalize (1000000000 : Int) ^ i = E
      generalize VB (p.drop (i + 1)) = v
      generalize VB q = u
      generalize p.getD i 0 = a
      have : E * 1000000000 * (v * u) + E * (a * u) = E * ((a + 1000000000 * v) * u) := by
        simp only [Int.add_mul, Int.mul_add, Int.mul_assoc, Int.mul_comm, Int.mul_left_comm]
        omega
      omega
    have h6 := ih (i + 1) out' (by omega) h1 h2 (fun j hj => by rw [h4 j (by omega)]; exact hz j (by omega))
    rw [hv] at h6
    clear hv h3
    refine Ev.succ (fun k => by rw [decimal_pieces_times.l0]) ?_
    rw [rd_nat]
    exact Ev.pos (by omega) (Ev.pos (by omega) (Ev.pos (by omega) (h5 h6)))
theorem times_ev (a b : Nat) (h : (pcs a).length + (pcs b).length < 1000000000000) : Ev (fun k => decimal_pieces_times.f k (pcs a) (pcs b)) (pcs (a * b)) := by
  obtain ⟨h1, h2⟩ := okB_pcs a
  obtain ⟨h3, h4⟩ := okB_pcs b
  have hw : wrap64 (((pcs a).length : Int) + ((pcs b).length : Int)) = (((pcs a).length + (pcs b).length : Nat) : Int) := by rw [wrap64_id (by omega)]; omega
  have := times_rows (pcs b) (pcs a) h3 h1 h (pcs a).length 0 (List.replicate ((pcs a).length + (pcs b).length) 0) (by omega) (fun c hc => by rw [(List.mem_replicate.1 hc).2]; omega) (by simp) (fun j _ => by
    rw [List.getD_eq_getElem?_getD, List.getElem?_replicate]; split <;> rfl)
  rw [VB_zeros, List.drop_zero, h2, h4, Int.pow_zero, Int.one_mul, Int.zero_add, ← Int.natCast_mul, Int.toNat_natCast] at this
  unfold decimal_pieces_times.f
  rw [hw, Int.toNat_natCast]
  exact Ev.pos (by omega) (Ev.pos (by omega) this)
end Go.Proofs.YtobdccgpbohpiaaGreatDoor
set_option linter.unusedVariables false
set_option linter.unusedSimpArgs false
namespace Go.Proofs.YtobdccgpbohpiaaGreatDoor
open Go.RowKit Go.Lib F Go.Proofs.YtobdccgpbohpiaaGreatDoorW.PrintWords Go.Proofs.YtobdccgpbohpiaaGreatDoorW.PrintLast Go.Proofs.YtobdccgpbohpiaaGreatDoorW.PrintMore
def D (n : Nat) : ByteArray := ⟨(decDigits n).toArray⟩
theorem D_list (n : Nat) : (D n).data.toList = decDigits n := rfl
theorem D_size (n : Nat) : (D n).size = nDigits n := by
  rw [← decDigits_length]; rfl
theorem u8_dig {i : Nat} (h : i < 10) : (UInt8.ofNat (48 + i)).toNat = 48 + i := by
  rw [UInt8.toNat_ofNat']; omega
theorem isDec_decDigits (n : Nat) : isDec (decDigits n) = true := by
  induction n using Nat.strongRecOn with
  | _ n ih =>
    rw [decDigits]
    by_cases h : n < 10
    · rw [dif_pos h]
      simp only [isDec, List.all_cons, List.all_nil, u8_dig h, Bool.and_true, Bool.and_eq_true, decide_eq_true_eq]; omega
    · rw [dif_neg h]
      have h1 := ih (n / 10) (by omega)
      have h2 : n % 10 < 10 := by omega
      simp only [isDec, List.all_append, List.all_cons, List.all_nil, u8_dig h2, Bool.and_true, Bool.and_eq_true, decide_eq_true_eq] at h1 ⊢
      exact ⟨h1, by omega⟩
theorem decVal_decDigits (n : Nat) : decVal (decDigits n) = n := by
  induction n using Nat.strongRecOn with
  | _ n ih =>
    rw [decDigits]
    by_cases h : n < 10
    · rw [dif_pos h]
      simp only [decVal, List.foldl_cons, List.foldl_nil, u8_dig h]; omega
    · rw [dif_neg h, decVal_snoc, ih (n / 10) (by omega), u8_dig (by omega)]; omega
theorem decVal_cons (c : UInt8) (r : List UInt8) : decVal (c :: r) = (c.toNat - 48) * 10 ^ r.length + decVal r := by
  have := decVal_append [c] r
  simpa [decVal] using this
theorem parse10 (l : List UInt8) (acc : Nat) (hd : isDec l = true) (h : acc * 10 ^ l.length + decVal l < 1000000000000000000) : parseUint10 acc l = .ok (acc * 10 ^ l.length + decVal l) := by
  induction l generalizing acc with
  | nil => simp [parseUint10, decVal]
  | cons c r ih =>
    have hd2 : (48 ≤ c.toNat ∧ c.toNat ≤ 57) ∧ isDec r = true := by
      simpa only [isDec, List.all_cons, Bool.and_eq_true, decide_eq_true_eq] using hd
    have hv : acc * 10 ^ (c :: r).length + decVal (c :: r) = (acc * 10 + (c.toNat - 48)) * 10 ^ r.length + decVal r := by
      rw [decVal_cons, List.length_cons, Nat.pow_succ, Nat.add_mul, Nat.mul_assoc, Nat.mul_comm 10]; omega
    rw [hv] at h ⊢
    have hp : 1 ≤ 10 ^ r.length := Nat.one_le_pow _ _ (by decide)
    have hle : acc * 10 + (c.toNat - 48) ≤ (acc * 10 + (c.toNat - 48)) * 10 ^ r.length := Nat.le_mul_of_pos_right _ hp
    rw [parseUint10, if_pos hd2.1, if_neg (by omega), if_neg (by omega)]
    exact ih _ hd2.2 h
theorem parseM (l : List UInt8) (acc : Nat) (hd : isDec l = true) (h : acc * 10 ^ l.length + decVal l < 1000000000000000000) : parseUintM (2 ^ 64 - 1) acc l = .ok (acc * 10 ^ l.length + decVal l) := by
  induction l generalizing acc with
  | nil => simp [parseUintM, decVal]
  | cons c r ih =>
    have hd2 : (48 ≤ c.toNat ∧ c.toNat ≤ 57) ∧ isDec r = true := by
      simpa only [isDec, List.all_cons, Bool.and_eq_true, decide_eq_true_eq] using hd
    have hv : acc * 10 ^ (c :: r).length + decVal (c :: r) = (acc * 10 + (c.toNat - 48)) * 10 ^ r.length + decVal r := by
      rw [decVal_cons, List.length_cons, Nat.pow_succ, Nat.add_mul, Nat.mul_assoc, Nat.mul_comm 10]; omega
    rw [hv] at h ⊢
    have hp : 1 ≤ 10 ^ r.length := Nat.one_le_pow _ _ (by decide)
    have hle : acc * 10 + (c.toNat - 48) ≤ (acc * 10 + (c.toNat - 48)) * 10 ^ r.length := Nat.le_mul_of_pos_right _ hp
    rw [parseUintM, if_pos hd2.1, if_neg (by omega), if_neg (by omega)]
    exact ih _ hd2.2 h
theorem decDigits_ne (n : Nat) : decDigits n ≠ [] := by
  intro h
  have := decDigits_length n
  rw [h] at this
  have := nDigits_pos n
  simp at *; omega
theorem decDigits_head (n : Nat) : ∃ c r, decDigits n = c :: r ∧ 48 ≤ c.toNat ∧ c.toNat ≤ 57 := by
  have h := isDec_decDigits n
  match hq : decDigits n, decDigits_ne n with
  | c :: r, _ =>
    rw [hq] at h
    simp only [isDec, List.all_cons, Bool.and_eq_true, decide_eq_true_eq] at h
    exact ⟨c, r, rfl, h.1.1, h.1.2⟩
theorem atoi_D {n : Nat} (h : n < 1000000000000000000) : atoiAll (decDigits n) = .ok (n : Int) := by
  have hp := parse10 (decDigits n) 0 (isDec_decDigits n) (by rw [decVal_decDigits]; omega)
  rw [decVal_decDigits, Nat.zero_mul, Nat.zero_add] at hp
  obtain ⟨c, r, hc, h1, h2⟩ := decDigits_head n
  rw [hc] at hp ⊢
  simp only [atoiAll]
  rw [if_neg (by omega)]
  rw [parseMag, if_neg (by simp), hp]
  simp only
  rw [if_neg (by omega), if_neg (by omega), if_neg (by omega)]
theorem lt_of_digits {n m : Nat} (h : nDigits n ≤ m) : n < 10 ^ m := Nat.lt_of_lt_of_le (lt_pow_nDigits n) (Nat.pow_le_pow_right (by decide) h)
theorem little_le {n : Nat} {m : Int} (h : (nDigits n : Int) ≤ m) (hm : m ≤ 18) : g_whole_little.f (D n) m = some ((n : Int), true) := by
  unfold g_whole_little.f
  rw [D_size, if_neg (by omega), if_neg (by omega), D_list, atoi_D (lt_of_digits (m := 18) (by omega))]
theorem little_gt {n : Nat} {m : Int} (h : m < (nDigits n : Int)) : g_whole_little.f (D n) m = some (0, false) := by
  unfold g_whole_little.f
  rw [D_size, if_pos h]
theorem small_le {n : Nat} (h : nDigits n ≤ 18) : g_decimal_Small.f (D n) = some ((n : Int), true) := by
  unfold g_decimal_Small.f
  rw [D_size, if_neg (by omega), D_list]
  have hp := parseM (decDigits n) 0 (isDec_decDigits n) (by rw [decVal_decDigits]; have := lt_of_digits h; omega)
  rw [decVal_decDigits, Nat.zero_mul, Nat.zero_add] at hp
  rw [parseUintB, if_neg (decDigits_ne n), hp]
theorem of_D (n : Nat) (h : n ≤ 9223372036854775807) : g_whole_Of.f (n : Int) = some (D n) := by
  unfold g_whole_Of.f
  rw [if_pos ⟨by omega, by omega⟩, itoa_nonneg]; rfl
theorem dOf_D (n : Nat) (h : n ≤ 18446744073709551615) : g_decimal_Of.f (n : Int) = some (D n) := by
  unfold g_decimal_Of.f
  rw [if_pos ⟨by omega, by omega⟩, Int.toNat_natCast]; rfl
theorem cut_D (n : Nat) (h : nDigits n ≤ 1000000000000) : g_decimal_cut.f (D n) = some (pcs n) := by
  unfold g_decimal_cut.f
  rw [D_size, D_list, if_pos ⟨isDec_decDigits n, h⟩, decVal_decDigits]
theorem D_toList (n : Nat) : (D n).toList = decDigits n := by
  rw [← D_list]; exact ByteArray.toList_eq _
end Go.Proofs.YtobdccgpbohpiaaGreatDoor
set_option linter.unusedVariables false
set_option linter.unusedSimpArgs false
namespace Go.Proofs.YtobdccgpbohpiaaGreatDoor
open Go.RowKit Go.Lib F Go.Proofs.YtobdccgpbohpiaaGreatDoorW.PrintWords Go.Proofs.YtobdccgpbohpiaaGreatDoorW.PrintLast Go.Proofs.YtobdccgpbohpiaaGreatDoorW.PrintMore
theorem rev_ev : ∀ (m i j : Nat) (l : List Int), j + 1 = i + m → j < l.length → l.length < 1000000000000000 →
    Ev (fun k => slices_Reverse_byte_byte.l0 k l i j) (l.take i ++ ((l.drop i).take m).reverse ++ l.drop (i + m)) := by
  intro m
  induction m using Nat.strongRecOn with
  | _ m ih =>
    intro i j l hj hl hb
    refine Ev.succ (fun k => by rw [slices_Reverse_byte_byte.l0]) ?_
    by_cases h : i < j
    · obtain ⟨m', rfl⟩ : ∃ m', m = m' + 2 := ⟨m - 2, by omega⟩
      have hw1 : wrap64 ((i : Int) + 1) = ((i + 1 : Nat) : Int) := by rw [wrap64_id (by omega)]; omega
      have hw2 : wrap64 ((j : Int) - 1) = ((j - 1 : Nat) : Int) := by rw [wrap64_id (by omega)]; omega
      rw [hw1, hw2, rd_nat, rd_nat, Int.toNat_natCast, Int.toNat_natCast]
      have h6 := ih m' (by omega) (i + 1) (j - 1) ((l.set i (l.getD j 0)).set j (l.getD i 0)) (by omega) (by simp; omega) (by simpa using hb)
      clear hw1 hw2
      have hr : ((l.set i (l.getD j 0)).set j (l.getD i 0)).take (i + 1) ++ ((((l.set i (l.getD j 0)).set j (l.getD i 0)).drop (i + 1)).take m').reverse ++ ((l.set i (l.getD j 0)).set j (l.getD i 0)).drop (i + 1 + m') = l.take i ++ ((l.drop i).take (m' + 2)).reverse ++ l.drop (i + (m' + 2)) := by
        apply List.ext_getElem?
        intro t
        have hjm : j = i + m' + 1 := by omega
        subst hjm
        simp only [List.getElem?_append, List.length_append, List.length_take, List.length_reverse, List.length_drop, List.length_set, List.getElem?_take, List.getElem?_drop]
        by_cases h1 : t < i
        · rw [if_pos (by omega), if_pos (by omega), if_pos (by omega), if_pos (by omega), if_pos (by omega), if_pos (by omega), List.getElem?_set_ne (by omega), List.getElem?_set_ne (by omega)]
        · by_cases h2 : t = i
          · subst h2
            rw [if_pos (by omega), if_pos (by omega), if_pos (by omega), if_pos (by omega), if_neg (by omega)]
            rw [List.getElem?_set_ne (by omega), List.getElem?_set_self (by omega), List.getElem?_reverse (by simp; omega)]
            simp only [List.length_take, List.length_drop, List.getElem?_take, List.getElem?_drop]
            rw [if_pos (by omega), List.getD_eq_getElem?_getD, show t + (min (m' + 2) (l.length - t) - 1 - (t - min t l.length)) = t + m' + 1 by omega, List.getElem?_eq_getElem (by omega)]; rfl
          · by_cases h3 : t < i + 1 + m'
            · rw [if_pos (by omega), if_neg (by omega), if_pos (by omega), if_neg (by omega)]
              rw [List.getElem?_reverse (by simp; omega), List.getElem?_reverse (by simp; omega)]
              simp only [List.length_take, List.length_drop, List.getElem?_take, List.getElem?_drop, List.length_set]
              rw [if_pos (by omega), if_pos (by omega), List.getElem?_set_ne (by omega), List.getElem?_set_ne (by omega)]
              congr 1; omega
            · by_cases h4 : t = i + m' + 1
              · subst h4
                rw [if_neg (by omega), if_pos (by omega), if_neg (by omega), List.getElem?_reverse (by simp; omega)]
                simp only [List.length_take, List.length_drop, List.getElem?_take, List.getElem?_drop]
                rw [if_pos (by omega), show i + 1 + m' + (i + m' + 1 - (min (i + 1) l.length + min m' (l.length - (i + 1)))) = i + m' + 1 by omega, List.getElem?_set_self (by simp; omega), List.getD_eq_getElem?_getD]
                rw [show i + (min (m' + 2) (l.length - i) - 1 - (i + m' + 1 - min i l.length)) = i by omega, List.getElem?_eq_getElem (by omega)]; rfl
              · rw [if_neg (by omega), if_neg (by omega)]
                rw [List.getElem?_set_ne (by omega), List.getElem?_set_ne (by omega)]
                congr 1; omega
      rw [hr] at h6
      clear hr ih
      exact Ev.pos (by omega) (Ev.pos (by omega) (Ev.pos (by omega) (Ev.pos (by omega) (Ev.pos (by omega) h6))))
    · refine Ev.neg (by omega) ?_
      have : l.take i ++ ((l.drop i).take m).reverse ++ l.drop (i + m) = l := by
        have hm : m ≤ 1 := by omega
        have hs : ((l.drop i).take m).reverse = (l.drop i).take m := by
          have hl1 : ((l.drop i).take m).length ≤ 1 := by simp; omega
          match hq : (l.drop i).take m, hl1 with
          | [], _ => rfl
          | [x], _ => rfl
        rw [hs, List.append_assoc, ← List.drop_drop, List.take_append_drop, List.take_append_drop]
      rw [this]
      exact Ev.pure _
def digL (n : Nat) : List Int := if h : n = 0 then [] else ((48 + n % 10 : Nat) : Int) :: digL (n / 10)
termination_by n
decreasing_by omega
theorem digL_pos {n : Nat} (h : n ≠ 0) : digL n = ((48 + n % 10 : Nat) : Int) :: digL (n / 10) := by rw [digL, dif_neg h]
theorem digL_zero : digL 0 = [] := by rw [digL, dif_pos rfl]
theorem digL_text (n : Nat) (h : n ≠ 0) : strOfNums (digL n).reverse = D n := by
  have key : ∀ n : Nat, n ≠ 0 → (digL n).reverse.map (fun n => UInt8.ofNat n.toNat) = decDigits n := by
    intro n
    induction n using Nat.strongRecOn with
    | _ n ih =>
      intro h
      rw [digL_pos h, decDigits]
      by_cases hn : n < 10
      · rw [dif_pos hn, show n / 10 = 0 by omega, digL_zero, show n % 10 = n by omega]; rfl
      · rw [dif_neg hn, List.reverse_cons, List.map_append, ih (n / 10) (by omega) (by omega)]; rfl
  have := key n h
  unfold strOfNums D
  rw [this]
theorem pcs_zero : pcs 0 = [] := by rw [pcs, dif_pos rfl]
theorem pcs_pos {n : Nat} (h : n ≠ 0) : pcs n = ((n % 1000000000 : Nat) : Int) :: pcs (n / 1000000000) := by rw [pcs, dif_neg h]
theorem text_l1 (p : List Int) (i : Nat) (R : Nat) (hi : i < p.length) (hR : p.drop (i + 1) = pcs R) (hb : p.length < 1000000000000)
    (T : ∀ out : List Int, out.length + 9 * (p.length - (i + 1)) < 100000000000000 → Ev (fun k => decimal_pieces_text.l0 k p out p (p.length : Int) ((i + 1 : Nat) : Int)) (strOfNums (out ++ digL R).reverse)) :
    ∀ (m c : Nat) (out : List Int), m ≤ 9 → c < 10 ^ m → out.length + m + 9 * (p.length - (i + 1)) < 100000000000000 →
      Ev (fun k => decimal_pieces_text.l1 k p out i c ((9 - m : Nat) : Int) p (p.length : Int) i) (strOfNums (out ++ digL (c + 10 ^ m * R)).reverse) := by
  intro m
  have hw1 : wrap64 ((i : Int) + 1) = ((i + 1 : Nat) : Int) := by rw [wrap64_id (by omega)]; omega
  have hRl : (i + 1 < p.length) ↔ R ≠ 0 := by
    have h1 : (p.drop (i + 1)).length = p.length - (i + 1) := List.length_drop
    rw [hR] at h1
    by_cases h0 : R = 0
    · subst h0; rw [pcs_zero] at h1; simp at h1; omega
    · rw [pcs_pos h0, List.length_cons] at h1; omega
  induction m with
  | zero =>
    intro c out hm hc hl
    refine Ev.succ (fun k => by rw [decimal_pieces_text.l1]) ?_
    have hc0 : c = 0 := by simpa using hc
    subst hc0
    rw [Nat.pow_zero, Nat.one_mul, Nat.zero_add, hw1]
    exact Ev.neg (by omega) (T out (by omega))
  | succ m ih =>
    intro c out hm hc hl
    refine Ev.succ (fun k => by rw [decimal_pieces_text.l1]) ?_
    have hcb : c < 1000000000 := Nat.lt_of_lt_of_le hc (Nat.le_trans (Nat.pow_le_pow_right (by decide) hm) (by decide))
    have e1 : (IntKind.u64.wrap (48 + Int.tmod (c : Int) 10)) % 256 = ((48 + c % 10 : Nat) : Int) := by
      rw [Int.tmod_eq_emod_of_nonneg (by omega), wrapU_id (by omega)]; omega
    have e2 : IntKind.u64.wrap (Int.tdiv (c : Int) 10) = ((c / 10 : Nat) : Int) := by
      rw [Int.tdiv_eq_ediv_of_nonneg (by omega), wrapU_id (by omega)]; omega
    have e3 : wrap64 (((9 - (m + 1) : Nat) : Int) + 1) = ((9 - m : Nat) : Int) := by rw [wrap64_id (by omega)]; omega
    rw [e1, e2, e3, hw1]
    have h10 : 10 ^ (m + 1) = 10 * 10 ^ m := by rw [Nat.pow_succ, Nat.mul_comm]
    have hE : 1 ≤ 10 ^ m := Nat.one_le_pow _ _ (by decide)
    have hnext := ih (c / 10) (out ++ [((48 + c % 10 : Nat) : Int)]) (by omega) (by omega) (by rw [List.length_append, List.length_singleton]; omega)
    clear e1 e2 e3
    by_cases h0 : c + 10 ^ (m + 1) * R = 0
    · have hc0 : c = 0 := by omega
      have hR0 : R = 0 := by
        rcases Nat.eq_zero_or_pos R with h | h
        · exact h
        · have : 1 ≤ 10 ^ (m + 1) * R := Nat.mul_pos (by omega) h
          omega
      subst hc0 hR0
      rw [h0]
      refine Ev.pos (by omega) (Ev.neg (by intro hh; exact hRl.1 (by omega) rfl) (Ev.neg (by omega) ?_))
      exact T out (by omega)
    · have hq : (c + 10 ^ (m + 1) * R) / 10 = c / 10 + 10 ^ m * R := by rw [h10, Nat.mul_assoc]; omega
      have hr : (c + 10 ^ (m + 1) * R) % 10 = c % 10 := by rw [h10, Nat.mul_assoc]; omega
      rw [digL_pos h0, hq, hr]
      rw [List.append_assoc, List.singleton_append] at hnext
      by_cases hR0 : R = 0
      · subst hR0
        refine Ev.pos (by omega) (Ev.neg (by intro hh; exact hRl.1 (by omega) rfl) (Ev.pos (by omega) (Ev.pos (by omega) hnext)))
      · have := hRl.2 hR0
        exact Ev.pos (by omega) (Ev.pos (by omega) (Ev.pos (by omega) hnext))
theorem text_l0 (p : List Int) (hb : p.length < 1000000000000) : ∀ (m i S : Nat) (out : List Int), i + m = p.length → p.drop i = pcs S → out.length + 9 * (p.length - i) < 100000000000000 →
    Ev (fun k => decimal_pieces_text.l0 k p out p (p.length : Int) i) (strOfNums (out ++ digL S).reverse) := by
  intro m
  induction m with
  | zero =>
    intro i S out hi hS hl
    have hS0 : S = 0 := by
      rw [List.drop_eq_nil_of_le (by omega)] at hS
      rcases Nat.eq_zero_or_pos S with h | h
      · exact h
      · rw [pcs_pos (by omega)] at hS; cases hS
    subst hS0
    refine Ev.succ (fun k => by rw [decimal_pieces_text.l0]) ?_
    rw [digL_zero, List.append_nil]
    refine Ev.neg (by omega) (Ev.bind (t := out.reverse) ?_ (Ev.pure _))
    unfold slices_Reverse_byte_byte.f
    rcases Nat.eq_zero_or_pos out.length with h | h
    · have : out = [] := List.eq_nil_of_length_eq_zero h
      subst this
      refine Ev.succ (fun k => by rw [slices_Reverse_byte_byte.l0]) ?_
      rw [wrap64_id (by simp)]
      exact Ev.neg (by simp) (Ev.pure _)
    · have := rev_ev out.length 0 (out.length - 1) out (by omega) (by omega) (by omega)
      rw [List.take_zero, List.nil_append, List.drop_zero, Nat.zero_add, List.take_of_length_le (Nat.le_refl _), List.drop_eq_nil_of_le (Nat.le_refl _), List.append_nil] at this
      have hw : wrap64 ((out.length : Int) - 1) = ((out.length - 1 : Nat) : Int) := by rw [wrap64_id (by omega)]; omega
      rw [hw]
      exact this
  | succ m ih =>
    intro i S out hi hS hl
    have hS0 : S ≠ 0 := by
      rintro rfl
      rw [pcs_zero] at hS
      have : (p.drop i).length = 0 := by rw [hS]; rfl
      rw [List.length_drop] at this; omega
    rw [pcs_pos hS0, List.drop_eq_getElem_cons (by omega : i < p.length)] at hS
    injection hS with h1 h2
    refine Ev.succ (fun k => by rw [decimal_pieces_text.l0]) ?_
    have hrd : rd p (i : Int) = ((S % 1000000000 : Nat) : Int) := by rw [rd_nat, List.getD_eq_getElem?_getD, List.getElem?_eq_getElem (by omega), Option.getD_some, h1]
    rw [hrd]
    have := text_l1 p i (S / 1000000000) (by omega) h2 hb (fun out' ho' => ih (i + 1) (S / 1000000000) out' (by omega) h2 ho') 9 (S % 1000000000) out (Nat.le_refl _) (by omega) (by omega)
    rw [show S % 1000000000 + 10 ^ 9 * (S / 1000000000) = S by omega] at this
    exact Ev.pos (by omega) (Ev.pos (by omega) (Ev.pos (by omega) this))
theorem text_ev (n : Nat) (h : (pcs n).length < 1000000000000) : Ev (fun k => decimal_pieces_text.f k (pcs n)) (D n) := by
  unfold decimal_pieces_text.f
  by_cases h0 : n = 0
  · subst h0
    rw [pcs_zero]
    refine Ev.pos rfl ?_
    have : D 0 = (⟨#[48]⟩ : ByteArray) := by
      unfold D; rw [decDigits_one (by omega)]; rfl
    rw [this]; exact Ev.pure _
  · have hw : wrap64 (9 * ((pcs n).length : Int)) = ((9 * (pcs n).length : Nat) : Int) := by rw [wrap64_id (by omega)]; omega
    have := text_l0 (pcs n) h (pcs n).length 0 n [] (by omega) (by rw [List.drop_zero]) (by simp; omega)
    rw [List.nil_append, digL_text n h0] at this
    have hl : 1 ≤ (pcs n).length := by rw [pcs_pos h0, List.length_cons]; omega
    rw [hw, Int.toNat_natCast]
    exact Ev.neg (by omega) (Ev.pos (by omega) (Ev.pos (by omega) this))
end Go.Proofs.YtobdccgpbohpiaaGreatDoor
set_option linter.unusedVariables false
set_option linter.unusedSimpArgs false
namespace Go.Proofs.YtobdccgpbohpiaaGreatDoor
open Go.RowKit Go.Lib F Go.Proofs.YtobdccgpbohpiaaGreatDoorW.PrintWords Go.Proofs.YtobdccgpbohpiaaGreatDoorW.PrintLast Go.Proofs.YtobdccgpbohpiaaGreatDoorW.PrintMore
theorem nDigits_B {n : Nat} (h : 1000000000 ≤ n) : nDigits n = nDigits (n / 1000000000) + 9 := by
  rw [nDigits_big (by omega), nDigits_big (by omega), nDigits_big (by omega), nDigits_big (by omega), nDigits_big (by omega), nDigits_big (by omega), nDigits_big (by omega), nDigits_big (by omega), nDigits_big (by omega)]
  rw [show n / 10 / 10 / 10 / 10 / 10 / 10 / 10 / 10 / 10 = n / 1000000000 by omega]
theorem pcs_length (n : Nat) : (pcs n).length ≤ nDigits n := by
  induction n using Nat.strongRecOn with
  | _ n ih =>
    by_cases h : n = 0
    · subst h; rw [pcs_zero]; exact Nat.zero_le _
    · rw [pcs_pos h, List.length_cons]
      by_cases hb : n < 1000000000
      · rw [show n / 1000000000 = 0 by omega, pcs_zero]; exact nDigits_pos n
      · have := ih (n / 1000000000) (by omega)
        have := nDigits_B (n := n) (by omega); omega
theorem pow_le_digits {n : Nat} (h : n ≠ 0) : 10 ^ (nDigits n - 1) ≤ n := by
  induction n using Nat.strongRecOn with
  | _ n ih =>
    by_cases hn : n < 10
    · rw [nDigits_small hn]; simp; omega
    · have := ih (n / 10) (by omega) (by omega)
      rw [nDigits_big hn, Nat.add_sub_cancel]
      have hp := nDigits_pos (n / 10)
      obtain ⟨d, hd⟩ : ∃ d, nDigits (n / 10) = d + 1 := ⟨nDigits (n / 10) - 1, by omega⟩
      rw [hd] at this ⊢
      rw [Nat.add_sub_cancel] at this
      rw [Nat.pow_succ]; omega
theorem digits_le {n m : Nat} (h : n < 10 ^ m) (hm : 1 ≤ m) : nDigits n ≤ m := by
  by_cases h0 : n = 0
  · subst h0; rw [nDigits_small (by omega)]; exact hm
  · rcases Nat.lt_or_ge m (nDigits n) with hlt | hge
    · have := pow_le_digits h0
      have h2 : 10 ^ m ≤ 10 ^ (nDigits n - 1) := Nat.pow_le_pow_right (by decide) (by omega)
      omega
    · exact hge
theorem digits_mono {a b : Nat} (h : a ≤ b) : nDigits a ≤ nDigits b := by
  exact digits_le (Nat.lt_of_le_of_lt h (lt_pow_nDigits b)) (nDigits_pos b)
theorem bt_D (n : Nat) : bt (D n) 0 ≠ 45 ∧ 0 < (D n).size := by
  obtain ⟨c, r, hc, h1, h2⟩ := decDigits_head n
  have hs : 0 < (D n).size := by rw [D_size]; exact nDigits_pos n
  refine ⟨?_, hs⟩
  have hg : (D n)[(0 : Int).toNat]'hs = c := by
    have : (D n).data.toList[0]'(by rw [← Lib.size_eq]; exact hs) = c := by
      simp only [D_list, hc]; rfl
    exact this
  unfold bt
  have hs' : (0 : Int).toNat < (D n).size := hs
  rw [dif_pos hs', hg]
  omega
theorem split_D (n : Nat) : whole_split.f (D n) = some (false, D n) := by
  obtain ⟨h1, h2⟩ := bt_D n
  unfold whole_split.f
  rw [if_pos (by omega), if_pos (by omega), if_neg h1]
theorem join_false (x : ByteArray) : whole_join.f false x = some x := by
  unfold whole_join.f
  rw [if_neg (by decide)]
theorem dMul_ev (a b : Nat) (h : nDigits a + nDigits b < 1000000000000) : Ev (fun k => decimal_Mul.f k (D a) (D b)) (D (a * b)) := by
  unfold decimal_Mul.f
  have hp1 := pcs_length a
  have hp2 := pcs_length b
  rw [D_size, D_size]
  have hw : wrap64 (((nDigits a : Nat) : Int) + ((nDigits b : Nat) : Int)) = ((nDigits a + nDigits b : Nat) : Int) := by rw [wrap64_id (by omega)]; omega
  rw [hw]
  by_cases hs : nDigits a + nDigits b ≤ 18
  · have ha := lt_pow_nDigits a
    have hb := lt_pow_nDigits b
    have hab : a * b < 10 ^ 18 := by
      have h1 : a * b < 10 ^ nDigits a * 10 ^ nDigits b := Nat.mul_lt_mul'' ha hb
      rw [← Nat.pow_add] at h1
      exact Nat.lt_of_lt_of_le h1 (Nat.pow_le_pow_right (by decide) hs)
    refine Ev.pos (by omega) (Ev.bind (t := ((a : Int), (b : Int), true)) ?_ ?_)
    · unfold decimal_both.f
      rw [D_size, D_size]
      have hd : decide (((nDigits b : Nat) : Int) > 18) = false := decide_eq_false (by omega)
      rw [hd]
      refine Ev.neg (by omega) ?_
      refine Ev.succ (fun k => by rw [decimal_both.j0]) ?_
      rw [small_le (by omega : nDigits a ≤ 18), small_le (by omega : nDigits b ≤ 18)]
      exact Ev.neg (by decide) (Ev.pure _)
    · refine Ev.bind (t := D (a * b)) ?_ (Ev.pure _)
      refine Ev.const ?_
      simp only
      rw [← Int.natCast_mul, wrapU_id (by omega), dOf_D _ (by omega)]
  · refine Ev.neg (by omega) ?_
    rw [cut_D a (by omega), cut_D b (by omega)]
    refine Ev.bind (Ev.pure _) (Ev.bind (Ev.pure _) (Ev.bind (times_ev a b (by omega)) (Ev.bind (text_ev (a * b) ?_) (Ev.pure _))))
    have hm : a * b < 10 ^ (nDigits a + nDigits b) := by rw [Nat.pow_add]; exact Nat.mul_lt_mul'' (lt_pow_nDigits a) (lt_pow_nDigits b)
    have := digits_le hm (by have := nDigits_pos a; omega)
    have := pcs_length (a * b)
    omega
theorem wMul_ev (a b : Nat) (h : nDigits a + nDigits b < 1000000000000) : Ev (fun k => whole_Mul.f k (D a) (D b)) (D (a * b)) := by
  have hj : Ev (fun k => whole_Mul.j0 k (D a) (D b)) (D (a * b)) := by
    refine Ev.succ (fun k => by rw [whole_Mul.j0]) ?_
    rw [split_D, split_D]
    exact Ev.bind (Ev.pure _) (Ev.bind (Ev.pure _) (Ev.bind (dMul_ev a b h) (Ev.bind (Ev.const (join_false _)) (Ev.pure _))))
  unfold whole_Mul.f
  by_cases ha : nDigits a ≤ 9
  · rw [little_le (m := 9) (by omega) (by omega)]
    refine Ev.bind (Ev.pure _) (Ev.pos rfl ?_)
    by_cases hb : nDigits b ≤ 9
    · rw [little_le (n := b) (m := 9) (by omega) (by omega)]
      refine Ev.bind (Ev.pure _) (Ev.pos rfl (Ev.bind (Ev.const ?_) (Ev.pure _)))
      have hA := lt_of_digits ha
      have hB := lt_of_digits hb
      have hab : a * b < 10 ^ 9 * 10 ^ 9 := Nat.mul_lt_mul'' hA hB
      simp only
      rw [← Int.natCast_mul, wrap64_id (by omega), of_D _ (by omega)]
    · rw [little_gt (n := b) (m := 9) (by omega)]
      exact Ev.bind (Ev.pure _) (Ev.neg (by decide) hj)
  · rw [little_gt (n := a) (m := 9) (by omega)]
    exact Ev.bind (Ev.pure _) (Ev.neg (by decide) hj)
theorem less_dec : ∀ (l m : List UInt8), l.length = m.length → isDec l = true → isDec m = true → Op.bytesLess l m = decide (decVal l < decVal m)
  | [], [], _, _, _ => by simp [Op.bytesLess, decVal]
  | a :: x, b :: y, h, h1, h2 => by
    have hl : x.length = y.length := by simpa using h
    have e1 : (48 ≤ a.toNat ∧ a.toNat ≤ 57) ∧ isDec x = true := by simpa only [isDec, List.all_cons, Bool.and_eq_true, decide_eq_true_eq] using h1
    have e2 : (48 ≤ b.toNat ∧ b.toNat ≤ 57) ∧ isDec y = true := by simpa only [isDec, List.all_cons, Bool.and_eq_true, decide_eq_true_eq] using h2
    have ih := less_dec x y hl e1.2 e2.2
    have hx := decVal_lt e1.2
    have hy := decVal_lt e2.2
    rw [Op.bytesLess, ih, decVal_cons, decVal_cons, hl]
    rw [hl] at hx
    generalize decVal x = vx at *
    generalize decVal y = vy at *
    generalize 10 ^ y.length = E at *
    rcases Nat.lt_trichotomy a.toNat b.toNat with hab | hab | hab
    · have hlt : a < b := by rw [UInt8.lt_iff_toNat_lt]; exact hab
      have : (a.toNat - 48) * E + vx < (b.toNat - 48) * E + vy := by
        have : (a.toNat - 48 + 1) * E ≤ (b.toNat - 48) * E := Nat.mul_le_mul_right _ (by omega)
        rw [Nat.add_mul] at this; omega
      simp [hlt, this]
    · have he : a = b := UInt8.toNat_inj.1 hab
      subst he
      have hn : ¬ a < a := by rw [UInt8.lt_iff_toNat_lt]; omega
      simp [hn]
    · have hn : ¬ a < b := by rw [UInt8.lt_iff_toNat_lt]; omega
      have hne : ¬ a = b := fun h => by rw [h] at hab; omega
      have : ¬ ((a.toNat - 48) * E + vx < (b.toNat - 48) * E + vy) := by
        have : (b.toNat - 48 + 1) * E ≤ (a.toNat - 48) * E := Nat.mul_le_mul_right _ (by omega)
        rw [Nat.add_mul] at this; omega
      simp [hn, hne, this]
def cmpN (a b : Nat) : Int := if a < b then -1 else if a = b then 0 else 1
theorem D_inj {a b : Nat} : (D a).toList = (D b).toList ↔ a = b := by
  rw [D_toList, D_toList]
  constructor
  · intro h
    have := congrArg decVal h
    rwa [decVal_decDigits, decVal_decDigits] at this
  · rintro rfl; rfl
theorem dCmp_D (a b : Nat) (ha : nDigits a ≤ 1000000000000) (hb : nDigits b ≤ 1000000000000) : g_decimal_Compare.f (D a) (D b) = some (cmpN a b) := by
  unfold g_decimal_Compare.f cmpN
  rw [D_size, D_size]
  by_cases hs : nDigits a = nDigits b
  · rw [if_pos (by omega), D_toList, D_toList, less_dec _ _ (by rw [decDigits_length, decDigits_length, hs]) (isDec_decDigits _) (isDec_decDigits _), decVal_decDigits, decVal_decDigits]
    have := D_inj (a := a) (b := b)
    rw [D_toList, D_toList] at this
    by_cases h1 : a < b
    · rw [if_pos (decide_eq_true h1), if_pos h1]
    · rw [if_neg (by simpa using h1), if_neg h1]
      by_cases h2 : a = b
      · rw [if_pos (this.2 h2), if_pos h2]
      · rw [if_neg (fun h => h2 (this.1 h)), if_neg h2]
  · rw [if_neg (by omega), if_pos ⟨ha, hb⟩]
    by_cases h1 : nDigits a < nDigits b
    · have : a < b := by
        rcases Nat.lt_or_ge a b with h | h
        · exact h
        · have := digits_mono h; omega
      rw [if_pos h1, if_pos this]
    · have : b < a := by
        rcases Nat.lt_or_ge b a with h | h
        · exact h
        · have := digits_mono h; omega
      rw [if_neg h1, if_neg (by omega), if_neg (by omega)]
theorem D_zero : (D 0).toList = ([48] : List UInt8) := by rw [D_toList, decDigits_one (by omega)]; rfl
theorem sign_D (a : Nat) : whole_Sign.f (D a) = some (if a = 0 then 0 else 1) := by
  unfold whole_Sign.f
  rw [← D_zero]
  by_cases h : a = 0
  · rw [if_pos (D_inj.2 h), if_pos h]
  · obtain ⟨h1, h2⟩ := bt_D a
    rw [if_neg (fun hh => h (D_inj.1 hh)), if_pos (by omega), if_neg h1, if_neg h]
theorem wCmp_D (a b : Nat) (ha : nDigits a ≤ 1000000000000) (hb : nDigits b ≤ 1000000000000) : whole_Compare.f (D a) (D b) = some (cmpN a b) := by
  unfold whole_Compare.f
  rw [sign_D, sign_D, split_D, split_D]
  simp only [Option.bind_some, dCmp_D a b ha hb]
  unfold cmpN
  by_cases h1 : a = 0
  · by_cases h2 : b = 0
    · subst h1 h2; simp
    · rw [if_pos h1, if_neg h2, if_neg (by decide), if_pos (by decide), if_pos (by omega)]
  · by_cases h2 : b = 0
    · rw [if_neg h1, if_pos h2, if_neg (by decide), if_neg (by decide), if_neg (by omega), if_neg (by omega)]
    · rw [if_neg h1, if_neg h2, if_pos rfl, if_neg (by decide)]
end Go.Proofs.YtobdccgpbohpiaaGreatDoor
set_option linter.unusedVariables false
set_option linter.unusedSimpArgs false
namespace Go.Proofs.YtobdccgpbohpiaaGreatDoor
open Go.RowKit Go.Lib F Go.Proofs.YtobdccgpbohpiaaGreatDoorW.PrintWords Go.Proofs.YtobdccgpbohpiaaGreatDoorW.PrintLast Go.Proofs.YtobdccgpbohpiaaGreatDoorW.PrintMore
theorem bits_odd (n : Nat) (h : n < 4611686018427387904) : Go.bits .and .i64 (n : Int) 1 = ((n % 2 : Nat) : Int) := by
  have := Go.bits_mask .i64 62 (by decide) (fun m h0 h1 => by rw [IntKind.wrap_i64]; omega) 1 (by decide) (n : Int) (by omega) (by omega)
  simpa using this
theorem bitLen_small : ∀ a : Fin 98, 2 ≤ a.val → 2 ≤ Lib.bitLen a.val ∧ Lib.bitLen a.val ≤ 7 := by decide
theorem digits_mul (a b : Nat) : nDigits (a * b) ≤ nDigits a + nDigits b := by
  refine digits_le ?_ (by have := nDigits_pos a; omega)
  rw [Nat.pow_add]
  exact Nat.mul_lt_mul'' (lt_pow_nDigits a) (lt_pow_nDigits b)
theorem digits_pow (a n m : Nat) (h : nDigits a ≤ m) (hm : 1 ≤ m) : nDigits (a ^ n) ≤ m * n + 1 := by
  induction n with
  | zero => rw [Nat.pow_zero, nDigits_small (by omega)]; omega
  | succ n ih =>
    by_cases hn : n = 0
    · subst hn; rw [Nat.pow_one]; omega
    · rw [Nat.pow_succ]
      have := digits_mul (a ^ n) a
      rw [Nat.mul_succ]; omega
theorem pow_loop (n : Nat) : ∀ (o b : Nat), n ≤ 1000 → 1 ≤ o → 1 ≤ b → nDigits (o * b ^ n) ≤ 5000 →
    Ev (fun k => decimal_Power.l0 k (n : Int) (pcs o) (pcs b)) (D (o * b ^ n), 0) := by
  induction n using Nat.strongRecOn with
  | _ n ih =>
    intro o b hn ho hb h
    refine Ev.succ (fun k => by rw [decimal_Power.l0]) ?_
    by_cases h0 : n = 0
    · subst h0
      rw [Nat.pow_zero, Nat.mul_one] at h ⊢
      have hd := h
      have hp := pcs_length o
      refine Ev.neg (by omega) (Ev.bind (text_ev o (by omega)) ?_)
      rw [D_size]
      exact Ev.neg (by omega) (Ev.pure _)
    · have hb1 : b ≤ b ^ n := by
        have := Nat.pow_le_pow_right hb (show 1 ≤ n by omega)
        rwa [Nat.pow_one] at this
      have hbn : 1 ≤ b ^ n := Nat.one_le_pow _ _ hb
      have hoB : o ≤ o * b ^ n := Nat.le_mul_of_pos_right _ hbn
      have hbO : b ^ n ≤ o * b ^ n := Nat.le_mul_of_pos_left _ ho
      have d1 : nDigits o ≤ 5000 := Nat.le_trans (digits_mono hoB) h
      have d2 : nDigits b ≤ 5000 := Nat.le_trans (digits_mono (Nat.le_trans hb1 hbO)) h
      have p1 := pcs_length o
      have p2 := pcs_length b
      have e2 : (n : Int) / 2 = ((n / 2 : Nat) : Int) := by omega
      have hob : 1 ≤ o * b := Nat.mul_pos ho hb
      have hbb : 1 ≤ b * b := Nat.mul_pos hb hb
      have hsq : ∀ m, (b * b) ^ m = b ^ (2 * m) := fun m => by rw [Nat.pow_mul]; congr 1; rw [Nat.pow_two]
      rw [bits_odd n (by omega), e2]
      refine Ev.pos (by omega) ?_
      by_cases hodd : n % 2 = 1
      · refine Ev.pos (by omega) (Ev.bind (times_ev o b (by omega)) ?_)
        by_cases h1 : 1 < n
        · have hv : (o * b) * (b * b) ^ (n / 2) = o * b ^ n := by
            rw [hsq, Nat.mul_assoc]; congr 1
            conv => rhs; rw [show n = 2 * (n / 2) + 1 by omega, Nat.pow_succ, Nat.mul_comm]
          have := ih (n / 2) (by omega) (o * b) (b * b) (by omega) hob hbb (by rw [hv]; exact h)
          rw [hv] at this
          exact Ev.pos (by omega) (Ev.bind (times_ev b b (by omega)) this)
        · have h1' : n = 1 := by omega
          subst h1'
          have hv : (o * b) * b ^ (1 / 2) = o * b ^ 1 := by rw [show 1 / 2 = 0 from rfl, Nat.pow_zero, Nat.mul_one, Nat.pow_one]
          have := ih (1 / 2) (by omega) (o * b) b (by omega) hob hb (by rw [hv]; exact h)
          rw [hv] at this
          exact Ev.neg (by omega) this
      · have hv : o * (b * b) ^ (n / 2) = o * b ^ n := by
          rw [hsq, show 2 * (n / 2) = n by omega]
        have := ih (n / 2) (by omega) o (b * b) (by omega) ho hbb (by rw [hv]; exact h)
        rw [hv] at this
        exact Ev.neg (by omega) (Ev.pos (by omega) (Ev.bind (times_ev b b (by omega)) this))
theorem D_one : (D 1).toList = ([49] : List UInt8) := by rw [D_toList, decDigits_one (by omega)]; rfl
theorem D_one' : D 1 = (⟨#[49]⟩ : ByteArray) := by unfold D; rw [decDigits_one (by omega)]; rfl
theorem pow_digits {a n : Nat} (h1 : a < 98) (hn : n ≤ 1000) : nDigits (a ^ n) ≤ 2001 := by
  have hd : nDigits a ≤ 2 := digits_le (by omega) (by omega)
  have := digits_pow a n 2 hd (by omega)
  omega
theorem dPow_ev (a n : Nat) (h0 : 2 ≤ a) (h1 : a < 98) (hn : n ≤ 1000) : Ev (fun k => decimal_Power.f k (D a) (n : Int)) (D (a ^ n), 0) := by
  unfold decimal_Power.f
  refine Ev.neg (by omega) ?_
  by_cases hz : n = 0
  · subst hz
    refine Ev.pos rfl (Ev.succ (fun k => by rw [decimal_Power.j0]) (Ev.pos rfl ?_))
    rw [Nat.pow_zero, D_one']; exact Ev.pure _
  · refine Ev.neg (by omega) ?_
    have hne : ((D a).toList == ([49] : List UInt8)) = false := by
      rw [beq_eq_false_iff_ne, ← D_one]
      intro h
      have := D_inj.1 h; omega
    rw [hne]
    refine Ev.succ (fun k => by rw [decimal_Power.j0]) (Ev.neg (by decide) (Ev.neg ?_ ?_))
    · rw [← D_zero]
      intro h
      have := D_inj.1 h; omega
    · have hd : nDigits a ≤ 2 := digits_le (by omega) (by omega)
      have hb := bitLen_small ⟨a, h1⟩ h0
      simp only at hb
      have hB : g_decimal_Bits.f (D a) = some (Lib.bitLen a : Int) := by
        unfold g_decimal_Bits.f
        rw [small_le (by omega)]
        simp only [Option.bind_some, if_true]
        unfold g_bits_Len64.f
        rw [if_pos ⟨by omega, by omega⟩, Int.toNat_natCast]
      rw [hB]
      obtain ⟨bl, hbl⟩ : ∃ bl, bl = Lib.bitLen a := ⟨_, rfl⟩
      rw [← hbl] at hb ⊢
      have hw : wrap64 ((bl : Int) - 1) = ((bl - 1 : Nat) : Int) := by rw [wrap64_id (by omega)]; omega
      refine Ev.bind (Ev.pure _) ?_
      rw [hw]
      have hq : 1000 < 66439 / ((bl - 1 : Nat) : Int) := by
        have : bl = 2 ∨ bl = 3 ∨ bl = 4 ∨ bl = 5 ∨ bl = 6 ∨ bl = 7 := by omega
        rcases this with rfl | rfl | rfl | rfl | rfl | rfl <;> decide
      have hq2 : 66439 / ((bl - 1 : Nat) : Int) ≤ 66439 := by
        have : bl = 2 ∨ bl = 3 ∨ bl = 4 ∨ bl = 5 ∨ bl = 6 ∨ bl = 7 := by omega
        rcases this with rfl | rfl | rfl | rfl | rfl | rfl <;> decide
      rw [wrap64_id (x := 66439 / ((bl - 1 : Nat) : Int)) (by omega), cut_D a (by omega)]
      refine Ev.neg (by omega) (Ev.neg (by omega) (Ev.bind (Ev.pure _) ?_))
      have := pow_loop n 1 a hn (by omega) (by omega) (by rw [Nat.one_mul]; have := pow_digits h1 hn; omega)
      rw [Nat.one_mul] at this
      have h1p : pcs 1 = ([1] : List Int) := by rw [pcs_pos (by omega), show 1 / 1000000000 = 0 by omega, pcs_zero]; rfl
      rw [h1p] at this
      exact this
theorem wPow_ev (a n : Nat) (h0 : 2 ≤ a) (h1 : a < 98) (hn : n ≤ 1000) : Ev (fun k => whole_Power.f k (D a) (n : Int)) (D (a ^ n), 0) := by
  unfold whole_Power.f
  have hd : nDigits a ≤ 2 := digits_le (by omega) (by omega)
  have hd1 := nDigits_pos a
  refine Ev.neg (by omega) ?_
  rw [split_D]
  refine Ev.bind (Ev.pure _) ?_
  simp only
  rw [D_size]
  have hq : 1000 < 4000 / ((nDigits a : Nat) : Int) ∧ 4000 / ((nDigits a : Nat) : Int) ≤ 4000 := by
    have : nDigits a = 1 ∨ nDigits a = 2 := by omega
    rcases this with h | h <;> rw [h] <;> decide
  rw [wrap64_id (x := 4000 / ((nDigits a : Nat) : Int)) (by omega)]
  refine Ev.neg (by omega) (Ev.neg (by omega) (Ev.bind (dPow_ev a n h0 h1 hn) (Ev.pos rfl (Ev.neg (by decide) (Ev.bind (Ev.const (join_false _)) (Ev.pure _))))))
def numN : List Nat → List Int → Nat
  | a :: p, n :: x => a ^ n.toNat * numN p x
  | _, _ => 1
def denN : List Nat → List Int → Nat
  | a :: p, n :: x => a ^ (-n).toNat * denN p x
  | _, _ => 1
structure Fits (p : List Nat) (x : List Int) : Prop where
  len : x.length = p.length
  few : p.length ≤ 8
  primes : ∀ a ∈ p, 2 ≤ a ∧ a < 98
  exps : ∀ n ∈ x, -1000 ≤ n ∧ n ≤ 1000
def ints (p : List Nat) : List Int := p.map fun (n : Nat) => (n : Int)
theorem ints_rd (p : List Nat) (i : Nat) (hi : i < p.length) : rd (ints p) (i : Int) = ((p[i] : Nat) : Int) := by
  rw [rd_nat, ints, List.getD_eq_getElem?_getD, List.getElem?_map, List.getElem?_eq_getElem hi]; rfl
theorem mx_abs {n : Int} (h : -1000 ≤ n ∧ n ≤ 1000) : mx n (wrap64 (-n)) = ((n.natAbs : Nat) : Int) := by
  rw [wrap64_id (by omega)]
  unfold mx
  split <;> omega
theorem sides_loop (p : List Nat) (x : List Int) (h : Fits p x) : ∀ (m i nu de : Nat), i + m = p.length → nDigits nu ≤ 2001 * (i + 1) → nDigits de ≤ 2001 * (i + 1) →
    Ev (fun k => comma_sides.l0 k (ints p) (D nu) (D de) x (x.length : Int) i) (D (nu * numN (p.drop i) (x.drop i)), D (de * denN (p.drop i) (x.drop i))) ∧
    Ev (fun k => monzo_sides.l0 k (ints p) (D nu) (D de) x (x.length : Int) i) (D (nu * numN (p.drop i) (x.drop i)), D (de * denN (p.drop i) (x.drop i))) := by
  intro m
  induction m with
  | zero =>
    intro i nu de hi hn hd
    have := h.len
    rw [List.drop_eq_nil_of_le (by omega : p.length ≤ i), List.drop_eq_nil_of_le (by omega : x.length ≤ i)]
    simp only [numN, denN, Nat.mul_one]
    exact ⟨Ev.succ (fun k => by rw [comma_sides.l0]) (Ev.neg (by omega) (Ev.pure _)), Ev.succ (fun k => by rw [monzo_sides.l0]) (Ev.neg (by omega) (Ev.pure _))⟩
  | succ m ih =>
    intro i nu de hi hn hd
    have hl := h.len
    have hf := h.few
    have hip : i < p.length := by omega
    have hix : i < x.length := by omega
    have ha := h.primes _ (List.getElem_mem hip)
    have he := h.exps _ (List.getElem_mem hix)
    rw [List.drop_eq_getElem_cons hip, List.drop_eq_getElem_cons hix]
    simp only [numN, denN]
    have hrp := ints_rd p i hip
    have hrx : rd x (i : Int) = x[i] := by rw [rd_nat, List.getD_eq_getElem?_getD, List.getElem?_eq_getElem hix]; rfl
    have hil : (ints p).length = p.length := by simp [ints]
    generalize p[i] = a at ha hrp
    generalize x[i] = n at he hrx
    have hk : n.natAbs ≤ 1000 := by omega
    have hdp : nDigits (a ^ n.natAbs) ≤ 2001 := pow_digits ha.2 hk
    have hdm1 := digits_mul nu (a ^ n.natAbs)
    have hdm2 := digits_mul de (a ^ n.natAbs)
    by_cases hpos : n > 0
    · have e1 : n.toNat = n.natAbs := by omega
      have e2 : (-n).toNat = 0 := by omega
      rw [e1, e2, Nat.pow_zero, Nat.one_mul, ← Nat.mul_assoc]
      have hnext := ih (i + 1) (nu * a ^ n.natAbs) de (by omega) (by omega) (by omega)
      clear ih hdm1 hdm2
      constructor
      · refine Ev.succ (fun k => by rw [comma_sides.l0]) ?_
        have hw2 : wrap64 ((i : Int) + 1) = ((i + 1 : Nat) : Int) := by rw [wrap64_id (by omega)]; omega
        have hwu : IntKind.u64.wrap ((a : Nat) : Int) = (a : Int) := wrapU_id (by omega)
        rw [hrp, hrx, hw2, mx_abs he, of_D a (by omega)]
        clear hwu hw2 hrp hrx
        exact Ev.pos (by omega) (Ev.pos (by omega) (Ev.pos (by omega) (Ev.pos (by omega) (Ev.bind (Ev.pure _) (Ev.bind (wPow_ev a n.natAbs ha.1 ha.2 hk) (Ev.pos hpos (Ev.bind (wMul_ev nu (a ^ n.natAbs) (by omega)) hnext.1)))))))
      · refine Ev.succ (fun k => by rw [monzo_sides.l0]) ?_
        have hw2 : wrap64 ((i : Int) + 1) = ((i + 1 : Nat) : Int) := by rw [wrap64_id (by omega)]; omega
        have hwu : IntKind.u64.wrap ((a : Nat) : Int) = (a : Int) := wrapU_id (by omega)
        rw [hrp, hrx, hw2, mx_abs he, hwu, dOf_D a (by omega)]
        clear hwu hw2 hrp hrx
        exact Ev.pos (by omega) (Ev.pos (by omega) (Ev.pos (by omega) (Ev.pos (by omega) (Ev.bind (Ev.pure _) (Ev.bind (dPow_ev a n.natAbs ha.1 ha.2 hk) (Ev.pos hpos (Ev.bind (dMul_ev nu (a ^ n.natAbs) (by omega)) hnext.2)))))))
    · have e1 : n.toNat = 0 := by omega
      have e2 : (-n).toNat = n.natAbs := by omega
      rw [e1, e2, Nat.pow_zero, Nat.one_mul, ← Nat.mul_assoc]
      have hnext := ih (i + 1) nu (de * a ^ n.natAbs) (by omega) (by omega) (by omega)
      clear ih hdm1 hdm2
      constructor
      · refine Ev.succ (fun k => by rw [comma_sides.l0]) ?_
        have hw2 : wrap64 ((i : Int) + 1) = ((i + 1 : Nat) : Int) := by rw [wrap64_id (by omega)]; omega
        have hwu : IntKind.u64.wrap ((a : Nat) : Int) = (a : Int) := wrapU_id (by omega)
        rw [hrp, hrx, hw2, mx_abs he, of_D a (by omega)]
        clear hwu hw2 hrp hrx
        exact Ev.pos (by omega) (Ev.pos (by omega) (Ev.pos (by omega) (Ev.pos (by omega) (Ev.bind (Ev.pure _) (Ev.bind (wPow_ev a n.natAbs ha.1 ha.2 hk) (Ev.neg hpos (Ev.bind (wMul_ev de (a ^ n.natAbs) (by omega)) hnext.1)))))))
      · refine Ev.succ (fun k => by rw [monzo_sides.l0]) ?_
        have hw2 : wrap64 ((i : Int) + 1) = ((i + 1 : Nat) : Int) := by rw [wrap64_id (by omega)]; omega
        have hwu : IntKind.u64.wrap ((a : Nat) : Int) = (a : Int) := wrapU_id (by omega)
        rw [hrp, hrx, hw2, mx_abs he, hwu, dOf_D a (by omega)]
        clear hwu hw2 hrp hrx
        exact Ev.pos (by omega) (Ev.pos (by omega) (Ev.pos (by omega) (Ev.pos (by omega) (Ev.bind (Ev.pure _) (Ev.bind (dPow_ev a n.natAbs ha.1 ha.2 hk) (Ev.neg hpos (Ev.bind (dMul_ev de (a ^ n.natAbs) (by omega)) hnext.2)))))))
theorem fits_digits : ∀ (p : List Nat) (x : List Int), (∀ a ∈ p, 2 ≤ a ∧ a < 98) → (∀ n ∈ x, -1000 ≤ n ∧ n ≤ 1000) → nDigits (numN p x) ≤ 2001 * p.length + 1 ∧ nDigits (denN p x) ≤ 2001 * p.length + 1
  | [], x, _, _ => by
    have h : nDigits 1 ≤ 2001 * 0 + 1 := by rw [nDigits_small (by omega)]; omega
    exact ⟨h, h⟩
  | a :: p, [], _, _ => by
    have h : nDigits 1 ≤ 2001 * (a :: p).length + 1 := by rw [nDigits_small (by omega)]; omega
    exact ⟨h, h⟩
  | a :: p, n :: x, hp, hx => by
    have h1 := hp a List.mem_cons_self
    have h2 := hx n List.mem_cons_self
    obtain ⟨i1, i2⟩ := fits_digits p x (fun a ha => hp a (List.mem_cons_of_mem _ ha)) (fun a ha => hx a (List.mem_cons_of_mem _ ha))
    have p1 := pow_digits (a := a) (n := n.toNat) (by omega) (by omega)
    have p2 := pow_digits (a := a) (n := (-n).toNat) (by omega) (by omega)
    have m1 := digits_mul (a ^ n.toNat) (numN p x)
    have m2 := digits_mul (a ^ (-n).toNat) (denN p x)
    rw [numN, denN, List.length_cons]
    omega
theorem sides_ev (p : List Nat) (x : List Int) (h : Fits p x) : Ev (fun k => comma_sides.f k (ints p) x) (D (numN p x), D (denN p x)) ∧ Ev (fun k => monzo_sides.f k (ints p) x) (D (numN p x), D (denN p x)) := by
  have h1 : nDigits 1 ≤ 2001 * (0 + 1) := by rw [nDigits_small (by omega)]; omega
  have := sides_loop p x h p.length 0 1 1 (by omega) h1 h1
  rw [List.drop_zero, List.drop_zero, Nat.one_mul, Nat.one_mul, D_one'] at this
  exact this
end Go.Proofs.YtobdccgpbohpiaaGreatDoor
set_option linter.unusedVariables false
set_option linter.unusedSimpArgs false
namespace Go.Proofs.YtobdccgpbohpiaaGreatDoor
open Go.RowKit Go.Lib F Go.Proofs.YtobdccgpbohpiaaGreatDoorW.PrintWords Go.Proofs.YtobdccgpbohpiaaGreatDoorW.PrintLast Go.Proofs.YtobdccgpbohpiaaGreatDoorW.PrintMore
theorem Ev.of_mono {α : Type} {g : Nat → Option α} {r : α} (hm : ∀ k, LeO (g k) (g (k + 1))) {k0 : Nat} (h : g k0 = some r) : Ev g r := by
  refine ⟨k0, fun k hk => ?_⟩
  obtain ⟨d, rfl⟩ : ∃ d, k = k0 + d := ⟨k - k0, by omega⟩
  clear hk
  induction d with
  | zero => exact h
  | succ d ih => exact hm _ _ ih
def PL : List (List Nat) := [[2, 3, 5], [2, 3, 5, 7], [2, 3], [2, 3, 7], [2, 5, 7], [3, 5, 7], [2, 3, 5, 11], [2], [2, 3, 7, 13], [3, 5, 7, 13]]
def ex (p : List Nat) (n : Nat) : List Int × Bool := (schismalaw16_exponents.f 60 (ints p) (n : Int)).getD ([], false)
def EL (p : List Nat) : Nat → List S83
  | 0 => []
  | h + 1 => EL p h ++ if (ex p (h + 1)).2 = true then [⟨((h + 1 : Nat) : Int), (ex p (h + 1)).1⟩] else []
def grow1 (lim q : Int) (i : Nat) : Nat → List S83 → Option (List S83)
  | 0, _ => none
  | _ + 1, [] => some []
  | f + 1, e :: t => (grow1 lim q i f (if e.f0 ≤ wrap64 (Int.tdiv lim q) then t ++ [⟨wrap64 (e.f0 * q), e.f1.set i (wrap64 (rd e.f1 i + 1))⟩] else t)).map (e :: ·)
def genS (lim : Int) : List Int → Nat → List S83 → Option (List S83)
  | [], _, s => some s
  | q :: ps, i, s => (grow1 lim q i 200 s).bind (genS lim ps (i + 1))
theorem grow1_len {lim q : Int} {i n : Nat} : ∀ (f : Nat) (t r : List S83), grow1 lim q i f t = some r → (∀ e ∈ t, e.f1.length = n) → (∀ e ∈ r, e.f1.length = n) ∧ r.length < f
  | 0, _, _, h, _ => by cases h
  | f + 1, [], r, h, _ => by
    obtain rfl := Option.some.inj h
    exact ⟨fun e he => by simp at he, by simp⟩
  | f + 1, e :: t, r, h, hn => by
    rw [grow1, Option.map_eq_some_iff] at h
    obtain ⟨r', h, rfl⟩ := h
    have h0 := hn e List.mem_cons_self
    have := grow1_len f _ r' h (fun x hx => by
      split at hx
      · rcases List.mem_append.1 hx with hx | hx
        · exact hn x (List.mem_cons_of_mem _ hx)
        · rw [List.mem_singleton.1 hx, List.length_set]; exact h0
      · exact hn x (List.mem_cons_of_mem _ hx))
    refine ⟨fun x hx => ?_, by simp only [List.length_cons]; omega⟩
    rcases List.mem_cons.1 hx with rfl | hx
    · exact h0
    · exact this.1 x hx
theorem grow1_short {lim q : Int} {i : Nat} : ∀ (f : Nat) (t r : List S83), grow1 lim q i f t = some r → t.length < f
  | 0, _, _, h => by cases h
  | f + 1, [], r, h => by simp
  | f + 1, e :: t, r, h => by
    rw [grow1, Option.map_eq_some_iff] at h
    obtain ⟨r', h, rfl⟩ := h
    have := grow1_short f _ r' h
    split at this
    · rw [List.length_append, List.length_singleton] at this
      rw [List.length_cons]; omega
    · rw [List.length_cons]; omega
theorem rd83_at {l : List S83} {i : Nat} {e : S83} (h : l[i]? = some e) : rd_T83 l (i : Int) = e := by
  unfold rd_T83
  rw [Int.toNat_natCast, List.getD_eq_getElem?_getD, h]; rfl
theorem grow1_ev (lim : Int) (ps : List Int) (i n : Nat) (hin : i < n) (hn : n ≤ 1000) (q : Int) (hq : q ≠ 0) (R : List S83) : ∀ (f : Nat) (t r done : List S83), grow1 lim q i f t = some r → (∀ e ∈ t, e.f1.length = n) → done.length + f < 100000 →
    Ev (fun k => comma_numbers.l0 k lim (done ++ r) ps (ps.length : Int) (wrap64 ((i : Int) + 1))) R → Ev (fun k => comma_numbers.l1 k lim (done ++ t) (i : Int) q (done.length : Int) ps (ps.length : Int) (i : Int)) R
  | 0, _, _, _, h, _, _, _ => by cases h
  | f + 1, [], r, done, h, _, hd, hR => by
    obtain rfl := Option.some.inj h
    refine Ev.succ (fun k => by rw [comma_numbers.l1]) (Ev.neg ?_ hR)
    rw [List.append_nil]; omega
  | f + 1, e :: t, r, done, h, hl, hd, hR => by
    rw [grow1, Option.map_eq_some_iff] at h
    obtain ⟨r', h, rfl⟩ := h
    have h0 := hl e List.mem_cons_self
    have hlt : done.length < (done ++ e :: t).length := by rw [List.length_append, List.length_cons]; omega
    have hrd : rd_T83 (done ++ e :: t) (done.length : Int) = e := rd83_at (by rw [List.getElem?_append_right (Nat.le_refl _), Nat.sub_self]; rfl)
    have hw : wrap64 ((done.length : Int) + 1) = ((done ++ [e]).length : Int) := by rw [wrap64_id (by omega), List.length_append, List.length_singleton]; omega
    refine Ev.succ (fun k => by rw [comma_numbers.l1]) ?_
    rw [hrd, hw]
    clear hw
    refine Ev.pos (by omega) (Ev.pos (by omega) (Ev.neg hq ?_))
    have e1 : done ++ e :: r' = (done ++ [e]) ++ r' := by simp
    have hd2 : (done ++ [e]).length + f < 100000 := by rw [List.length_append, List.length_singleton]; omega
    rw [e1] at hR
    by_cases hc : e.f0 ≤ wrap64 (Int.tdiv lim q)
    · rw [if_pos hc] at h
      have ih := grow1_ev lim ps i n hin hn q hq R f _ r' (done ++ [e]) h (fun x hx => by
        rcases List.mem_append.1 hx with hx | hx
        · exact hl x (List.mem_cons_of_mem _ hx)
        · rw [List.mem_singleton.1 hx, List.length_set]; exact h0) hd2 hR
      have hle := (grow1_len f _ r' h (fun x hx => by
        rcases List.mem_append.1 hx with hx | hx
        · exact hl x (List.mem_cons_of_mem _ hx)
        · rw [List.mem_singleton.1 hx, List.length_set]; exact h0)).2
      have htl := grow1_short f _ r' h
      rw [List.length_append, List.length_singleton] at htl
      refine Ev.pos hc ?_
      have hcl : g_Clone_Row.f e.f1 = some e.f1 := by unfold g_Clone_Row.f; rw [if_pos (by omega)]
      refine Ev.bind (Ev.const hcl) (Ev.pos (by omega) (Ev.pos (by omega) (Ev.pos (by rw [List.length_append, List.length_cons]; omega) ?_)))
      rw [Int.toNat_natCast]
      have e2 : done ++ e :: t ++ [(⟨wrap64 (e.f0 * q), e.f1.set i (wrap64 (rd e.f1 i + 1))⟩ : S83)] = (done ++ [e]) ++ (t ++ [⟨wrap64 (e.f0 * q), e.f1.set i (wrap64 (rd e.f1 i + 1))⟩]) := by simp
      rw [e2]
      exact ih
    · rw [if_neg hc] at h
      have ih := grow1_ev lim ps i n hin hn q hq R f _ r' (done ++ [e]) h (fun x hx => hl x (List.mem_cons_of_mem _ hx)) hd2 hR
      have e2 : done ++ e :: t = (done ++ [e]) ++ t := by simp
      refine Ev.neg hc ?_
      rw [e2]
      exact ih
theorem genS_ev (lim : Int) (ps : List Int) (n : Nat) (hn : n = ps.length) (hn8 : n ≤ 8) (hq : ∀ q ∈ ps, q ≠ 0) (R : List S83) : ∀ (m i : Nat) (s r : List S83), i + m = n → genS lim (ps.drop i) i s = some r → (∀ e ∈ s, e.f1.length = n) → s.length < 200 →
    (∀ e ∈ r, e.f1.length = n) → Ev (fun _ => (g_sort_smooth.f r).bind fun z_ => some z_) R → Ev (fun k => comma_numbers.l0 k lim s ps (ps.length : Int) (i : Int)) R := by
  intro m
  induction m with
  | zero =>
    intro i s r hi hg hs hl hr hR
    rw [List.drop_eq_nil_of_le (by omega)] at hg
    obtain rfl := Option.some.inj hg
    exact Ev.succ (fun k => by rw [comma_numbers.l0]) (Ev.neg (by omega) hR)
  | succ m ih =>
    intro i s r hi hg hs hl hr hR
    have hil : i < ps.length := by omega
    rw [List.drop_eq_getElem_cons hil, genS, Option.bind_eq_some_iff] at hg
    obtain ⟨s', hg1, hg2⟩ := hg
    have h1 := grow1_len _ _ _ hg1 hs
    have hw : wrap64 ((i : Int) + 1) = ((i + 1 : Nat) : Int) := by rw [wrap64_id (by omega)]; omega
    have h2 := ih (i + 1) s' r (by omega) hg2 h1.1 h1.2 hr hR
    have e1 : rd ps (i : Int) = ps[i] := by rw [rd_nat, List.getD_eq_getElem?_getD, List.getElem?_eq_getElem hil]; rfl
    refine Ev.succ (fun k => by rw [comma_numbers.l0]) (Ev.pos (by omega) (Ev.pos (by omega) (Ev.pos (by omega) ?_)))
    rw [e1]
    have := grow1_ev lim ps i n (by omega) (by omega) ps[i] (hq _ (List.getElem_mem _)) R 200 s s' [] hg1 hs (by simp) (by rw [hw]; exact h2)
    exact this
def pr83 (e : S83) : Int × List Int := (e.f0, e.f1)
def start (p : List Nat) : List S83 := [⟨1, List.replicate p.length 0⟩]
def genB (p : List Nat) : Bool := match genS 130 (ints p) 0 (start p) with
  | some u => (u.map pr83).isPerm ((EL p 130).map pr83) && u.all (fun e => decide (e.f1.length = p.length)) && (p.all fun q => decide (2 ≤ q) && decide (q ≤ 13))
  | none => false
theorem genB_PL : PL.all genB = true := by kernel_rfl
def cap (H : Int) (l : List S83) : List S83 := l.filter fun e => decide (e.f0 ≤ H)
theorem grow1_cap (H q : Int) (hH : 1 ≤ H ∧ H ≤ 130) (hq : 2 ≤ q ∧ q ≤ 13) (i : Nat) : ∀ (f : Nat) (t r : List S83), grow1 130 q i f t = some r → (∀ e ∈ t, 1 ≤ e.f0 ∧ e.f0 ≤ 130) → (∀ f', f ≤ f' → grow1 H q i f' (cap H t) = some (cap H r)) ∧ (∀ e ∈ r, 1 ≤ e.f0 ∧ e.f0 ≤ 130)
  | 0, _, _, h, _ => by cases h
  | f + 1, [], r, h, _ => by
    obtain rfl := Option.some.inj h
    refine ⟨fun f' hf => ?_, fun e he => by simp at he⟩
    obtain ⟨f', rfl⟩ : ∃ g, f' = g + 1 := ⟨f' - 1, by omega⟩
    rfl
  | f + 1, e :: t, r, h, hb => by
    rw [grow1, Option.map_eq_some_iff] at h
    obtain ⟨r', h, rfl⟩ := h
    have h0 := hb e List.mem_cons_self
    have hd : ∀ L : Int, 1 ≤ L → L ≤ 130 → wrap64 (Int.tdiv L q) = L / q := fun L h1 h2 => by
      rw [Int.tdiv_eq_ediv_of_nonneg (by omega)]
      have : 0 ≤ L / q := Int.ediv_nonneg (by omega) (by omega)
      have : L / q ≤ L := Int.ediv_le_self _ (by omega)
      exact wrap64_id (by omega)
    have hle : ∀ L : Int, e.f0 ≤ L / q ↔ e.f0 * q ≤ L := fun L => Int.le_ediv_iff_mul_le (by omega)
    have hmul : e.f0 * q ≤ 1690 ∧ e.f0 ≤ e.f0 * q := by
      constructor
      · have : e.f0 * q ≤ 130 * 13 := Int.mul_le_mul h0.2 hq.2 (by omega) (by omega)
        omega
      · have : e.f0 * 1 ≤ e.f0 * q := Int.mul_le_mul_of_nonneg_left (by omega) (by omega)
        omega
    have hw : wrap64 (e.f0 * q) = e.f0 * q := wrap64_id (by omega)
    rw [hd 130 (by omega) (by omega), hw] at h
    have hdH := hd H hH.1 hH.2
    have ht : ∀ x ∈ t, 1 ≤ x.f0 ∧ x.f0 ≤ 130 := fun x hx => hb x (List.mem_cons_of_mem _ hx)
    by_cases hc : e.f0 ≤ 130 / q
    · rw [if_pos hc] at h
      have hcm := (hle 130).1 hc
      obtain ⟨ih1, ih2⟩ := grow1_cap H q hH hq i f _ r' h (fun x hx => by
        rcases List.mem_append.1 hx with hx | hx
        · exact ht x hx
        · rw [List.mem_singleton.1 hx]; exact ⟨by show 1 ≤ e.f0 * q; omega, by show e.f0 * q ≤ 130; omega⟩)
      refine ⟨fun f' hf => ?_, fun x hx => ?_⟩
      · by_cases hk : e.f0 ≤ H
        · obtain ⟨f', rfl⟩ : ∃ g, f' = g + 1 := ⟨f' - 1, by omega⟩
          have e1 : cap H (e :: t) = e :: cap H t := List.filter_cons_of_pos (by simpa using hk)
          have e2 : cap H (e :: r') = e :: cap H r' := List.filter_cons_of_pos (by simpa using hk)
          rw [e1, e2, grow1, hdH, hw]
          have := ih1 f' (by omega)
          unfold cap at this
          rw [List.filter_append] at this
          by_cases hj : e.f0 ≤ H / q
          · rw [if_pos hj]
            have hcm2 := (hle H).1 hj
            rw [List.filter_cons_of_pos (by simpa using hcm2), List.filter_nil] at this
            unfold cap
            rw [this]; rfl
          · rw [if_neg hj]
            have hcm2 : ¬ e.f0 * q ≤ H := fun hh => hj ((hle H).2 hh)
            rw [List.filter_cons_of_neg (by simpa using hcm2), List.filter_nil, List.append_nil] at this
            unfold cap
            rw [this]; rfl
        · have e1 : cap H (e :: t) = cap H t := List.filter_cons_of_neg (by simpa using hk)
          have e2 : cap H (e :: r') = cap H r' := List.filter_cons_of_neg (by simpa using hk)
          rw [e1, e2]
          have := ih1 f' (by omega)
          unfold cap at this
          rw [List.filter_append, List.filter_cons_of_neg (by simp; omega), List.filter_nil, List.append_nil] at this
          exact this
      · rcases List.mem_cons.1 hx with rfl | hx
        · exact h0
        · exact ih2 x hx
    · rw [if_neg hc] at h
      obtain ⟨ih1, ih2⟩ := grow1_cap H q hH hq i f _ r' h ht
      refine ⟨fun f' hf => ?_, fun x hx => ?_⟩
      · by_cases hk : e.f0 ≤ H
        · obtain ⟨f', rfl⟩ : ∃ g, f' = g + 1 := ⟨f' - 1, by omega⟩
          have e1 : cap H (e :: t) = e :: cap H t := List.filter_cons_of_pos (by simpa using hk)
          have e2 : cap H (e :: r') = e :: cap H r' := List.filter_cons_of_pos (by simpa using hk)
          have hj : ¬ e.f0 ≤ H / q := fun hh => hc ((hle 130).2 (Int.le_trans ((hle H).1 hh) hH.2))
          rw [e1, e2, grow1, hdH, if_neg hj, ih1 f' (by omega)]; rfl
        · have e1 : cap H (e :: t) = cap H t := List.filter_cons_of_neg (by simpa using hk)
          have e2 : cap H (e :: r') = cap H r' := List.filter_cons_of_neg (by simpa using hk)
          rw [e1, e2]
          exact ih1 f' (by omega)
      · rcases List.mem_cons.1 hx with rfl | hx
        · exact h0
        · exact ih2 x hx
theorem genS_cap (H : Int) (hH : 1 ≤ H ∧ H ≤ 130) : ∀ (ps : List Int) (i : Nat) (s r : List S83), (∀ q ∈ ps, 2 ≤ q ∧ q ≤ 13) → genS 130 ps i s = some r → (∀ e ∈ s, 1 ≤ e.f0 ∧ e.f0 ≤ 130) → genS H ps i (cap H s) = some (cap H r)
  | [], _, s, r, _, h, _ => by
    obtain rfl := Option.some.inj h
    rfl
  | q :: ps, i, s, r, hq, h, hb => by
    rw [genS, Option.bind_eq_some_iff] at h
    obtain ⟨s', h1, h2⟩ := h
    obtain ⟨k1, k2⟩ := grow1_cap H q hH (hq q List.mem_cons_self) i 200 s s' h1 hb
    rw [genS, k1 200 (Nat.le_refl _)]
    exact genS_cap H hH ps (i + 1) s' r (fun q hq' => hq q (List.mem_cons_of_mem _ hq')) h2 k2
theorem EL_f0 (p : List Nat) (m : Nat) : ∀ e ∈ EL p m, 1 ≤ e.f0 ∧ e.f0 ≤ m := by
  induction m with
  | zero => intro e he; simp [EL] at he
  | succ m ih =>
    intro e he
    rw [EL] at he
    rcases List.mem_append.1 he with he | he
    · have := ih e he; omega
    · split at he
      · rw [List.mem_singleton.1 he]
        constructor
        · show (1 : Int) ≤ ((m + 1 : Nat) : Int); omega
        · exact Int.le_refl _
      · simp at he
theorem EL_cap (p : List Nat) (H : Nat) (d : Nat) : cap (H : Int) (EL p (H + d)) = EL p H := by
  induction d with
  | zero =>
    unfold cap
    exact List.filter_eq_self.2 (fun e he => by simpa using (EL_f0 p H e he).2)
  | succ d ih =>
    rw [← Nat.add_assoc, EL]
    unfold cap at ih ⊢
    rw [List.filter_append, ih]
    have : List.filter (fun e : S83 => decide (e.f0 ≤ (H : Int))) (if (ex p (H + d + 1)).2 = true then [⟨((H + d + 1 : Nat) : Int), (ex p (H + d + 1)).1⟩] else []) = [] := by
      split
      · rw [List.filter_cons_of_neg (by simp; omega), List.filter_nil]
      · rfl
    rw [this, List.append_nil]
theorem EL_sorted (p : List Nat) (m : Nat) : (EL p m).Pairwise fun a b => a.f0 < b.f0 := by
  induction m with
  | zero => exact List.Pairwise.nil
  | succ m ih =>
    rw [EL, List.pairwise_append]
    refine ⟨ih, ?_, fun a ha b hb => ?_⟩
    · split
      · exact List.pairwise_singleton _ _
      · exact List.Pairwise.nil
    · split at hb
      · have := (EL_f0 p m a ha).2
        rw [List.mem_singleton.1 hb]
        show a.f0 < ((m + 1 : Nat) : Int)
        omega
      · simp at hb
theorem EL_length0 (p : List Nat) : ∀ H, (EL p H).length ≤ H
  | 0 => Nat.le_refl _
  | H + 1 => by
    have ih := EL_length0 p H
    rw [EL, List.length_append]
    split
    · rw [List.length_singleton]; omega
    · rw [List.length_nil]; omega
theorem sorted_one {α : Type} (key : α → Int) : ∀ (l m : List α), l.Perm m → l.Pairwise (fun a b => key a ≤ key b) → m.Pairwise (fun a b => key a < key b) → l = m
  | [], m, h, _, _ => (List.Perm.nil_eq h)
  | a :: l, [], h, _, _ => by have := h.length_eq; simp at this
  | a :: l, b :: m, h, h1, h2 => by
    have hab : a = b := by
      rw [List.pairwise_cons] at h1 h2
      rcases List.mem_cons.1 (h.mem_iff.1 List.mem_cons_self : a ∈ b :: m) with e | ha
      · exact e
      · rcases List.mem_cons.1 (h.mem_iff.2 List.mem_cons_self : b ∈ a :: l) with e | hb
        · exact e.symm
        · have := h1.1 b hb
          have := h2.1 a ha
          omega
    subst hab
    rw [sorted_one key l m (List.Perm.cons_inv h) (List.pairwise_cons.1 h1).2 (List.pairwise_cons.1 h2).2]
theorem numbers_ev {p : List Nat} (hp : p ∈ PL) {H : Nat} (h1 : 1 ≤ H) (h2 : H ≤ 130) : Ev (fun k => comma_numbers.f k (ints p) (H : Int)) (EL p H) := by
  have hB := List.all_eq_true.1 genB_PL p hp
  unfold genB at hB
  split at hB
  · rename_i u hu
    rw [Bool.and_eq_true, Bool.and_eq_true] at hB
    obtain ⟨⟨b1, b2⟩, b3⟩ := hB
    have hq : ∀ q ∈ p, 2 ≤ q ∧ q ≤ 13 := fun q hq => by
      have := List.all_eq_true.1 b3 q hq
      simpa using this
    have hqi : ∀ q ∈ ints p, 2 ≤ q ∧ q ≤ 13 := fun q hq' => by
      obtain ⟨n, hn, rfl⟩ := List.mem_map.1 hq'
      have := hq n hn; omega
    have hperm : u.Perm (EL p 130) := by
      have := (List.isPerm_iff.1 b1).map (fun x : Int × List Int => (⟨x.1, x.2⟩ : S83))
      rw [List.map_map, List.map_map] at this
      have e : (fun x : Int × List Int => (⟨x.1, x.2⟩ : S83)) ∘ pr83 = id := rfl
      rw [e, List.map_id, List.map_id] at this
      exact this
    have hg := genS_cap H ⟨by omega, by omega⟩ (ints p) 0 (start p) u hqi hu (fun e he => by
      rw [List.mem_singleton.1 he]
      exact ⟨Int.le_refl _, show (1 : Int) ≤ 130 by decide⟩)
    have hs : cap (H : Int) (start p) = start p := List.filter_eq_self.2 (fun e he => by
      rw [List.mem_singleton.1 he]
      show decide ((1 : Int) ≤ H) = true
      exact decide_eq_true (by omega))
    rw [hs] at hg
    have hperm2 : (cap (H : Int) u).Perm (EL p H) := by
      have := hperm.filter (fun e => decide (e.f0 ≤ (H : Int)))
      rw [show (130 : Nat) = H + (130 - H) by omega] at this
      have e := EL_cap p H (130 - H)
      unfold cap at e
      rw [e] at this
      exact this
    have hlen : ∀ e ∈ cap (H : Int) u, e.f1.length = p.length := fun e he => by
      have := List.all_eq_true.1 b2 e (List.mem_filter.1 he).1
      simpa using this
    have hpl : p.length ≤ 8 := by
      have : PL.all (fun p => decide (p.length ≤ 8)) = true := by decide
      simpa using List.all_eq_true.1 this p hp
    have hil : (ints p).length = p.length := by unfold ints; rw [List.length_map]
    have hF : ∀ e ∈ cap (H : Int) u, 0 ≤ e.f0 ∧ e.f0 < 4611686018427387904 := fun e he => by
      have := EL_f0 p H e (hperm2.mem_iff.1 he); omega
    have hel := EL_length0 p H
    have hfit : fitSmooth (cap (H : Int) u) = true := by
      unfold fitSmooth
      rw [Bool.and_eq_true]
      refine ⟨decide_eq_true (by have := hperm2.length_eq; omega), List.all_eq_true.2 (fun e he => ?_)⟩
      have := hF e he
      rw [Bool.and_eq_true]
      exact ⟨decide_eq_true this.1, decide_eq_true this.2⟩
    have hsort : g_sort_smooth.f (cap (H : Int) u) = some (EL p H) := by
      unfold g_sort_smooth.f
      rw [if_pos hfit]
      congr 1
      refine sorted_one S83.f0 _ _ ((sortL_perm cmpSmooth z83 _ (smooth_order _)).trans hperm2) ?_ (EL_sorted p H)
      refine (sortL_sorted cmpSmooth z83 _ (smooth_order _)).imp (fun {a b} h => ?_)
      unfold cmpSmooth at h
      omega
    unfold comma_numbers.f
    have e0 : (((ints p).length : Int) : Int).toNat = p.length := by rw [Int.toNat_natCast, hil]
    refine Ev.pos (by omega) (Ev.pos (by rw [e0]; omega) ?_)
    rw [e0]
    have := genS_ev (H : Int) (ints p) p.length hil.symm hpl (fun q hq => by have := hqi q hq; omega) (EL p H) p.length 0 (start p) _ (by omega) hg (fun e he => by
      rw [List.mem_singleton.1 he, List.length_replicate]) (by show 1 < 200; omega) hlen (Ev.bind (Ev.const hsort) (Ev.pure _))
    exact this
  · cases hB
end Go.Proofs.YtobdccgpbohpiaaGreatDoor
set_option linter.unusedVariables false
set_option linter.unusedSimpArgs false
namespace Go.Proofs.YtobdccgpbohpiaaGreatDoor
open Go.RowKit Go.Lib F Go.Proofs.YtobdccgpbohpiaaGreatDoorW.PrintWords Go.Proofs.YtobdccgpbohpiaaGreatDoorW.PrintLast Go.Proofs.YtobdccgpbohpiaaGreatDoorW.PrintMore
def apt : List Int → List Int → Bool
  | a :: x, b :: y => if 0 < a ∧ 0 < b then false else apt x y
  | _, _ => true
theorem apart_loop (a b : Int) (x y : List Int) (hl : x.length = y.length) (hb : x.length ≤ 1000) : ∀ (m i : Nat), i + m = x.length → Ev (fun k => comma_apart.l0 k (x.length : Int) (i : Int) a x b y) (apt (x.drop i) (y.drop i)) := by
  intro m
  induction m with
  | zero =>
    intro i hi
    refine Ev.succ (fun k => by rw [comma_apart.l0]) (Ev.neg (by omega) ?_)
    rw [List.drop_eq_nil_of_le (by omega)]
    exact Ev.pure _
  | succ m ih =>
    intro i hi
    have hix : i < x.length := by omega
    have hiy : i < y.length := by omega
    have hw : wrap64 ((i : Int) + 1) = ((i + 1 : Nat) : Int) := by rw [wrap64_id (by omega)]; omega
    have h3 := ih (i + 1) (by omega)
    have e1 : rd x (i : Int) = x[i] := by rw [rd_nat, List.getD_eq_getElem?_getD, List.getElem?_eq_getElem hix]; rfl
    have e2 : rd y (i : Int) = y[i] := by rw [rd_nat, List.getD_eq_getElem?_getD, List.getElem?_eq_getElem hiy]; rfl
    refine Ev.succ (fun k => by rw [comma_apart.l0]) ?_
    rw [hw, e1, e2, List.drop_eq_getElem_cons hix, List.drop_eq_getElem_cons hiy]
    clear hw e1 e2
    refine Ev.pos (by omega) (Ev.pos (by omega) (Ev.pos (by omega) ?_))
    rw [apt]
    by_cases h1 : x[i] > 0
    · refine Ev.pos h1 (Ev.pos (by omega) ?_)
      by_cases h2 : y[i] > 0
      · rw [if_pos ⟨h1, h2⟩]; exact Ev.pos h2 (Ev.pure _)
      · rw [if_neg (fun h => h2 h.2)]; exact Ev.neg h2 h3
    · rw [if_neg (fun h => h1 h.1)]
      exact Ev.neg h1 h3
theorem apart_ev (a b : Int) (x y : List Int) (hl : x.length = y.length) (hb : x.length ≤ 1000) : Ev (fun k => comma_apart.f k a x b y) (apt x y) := by
  have := apart_loop a b x y hl hb x.length 0 (by omega)
  exact this
def subL (x y : List Int) : List Int := List.zipWith (fun x y => wrap64 (x - y)) x y
def sane (p : List Nat) : Bool := decide ((EL p 130).length ≤ 70) && (EL p 130).all fun e => decide (e.f1.length = p.length) && e.f1.all fun n => decide (0 ≤ n) && decide (n ≤ 7)
theorem sane_PL : PL.all sane = true := by kernel_rfl
def coprime (p : List Nat) : Bool := (EL p 130).all fun a => (EL p 130).all fun b => apt a.f1 b.f1 == (Nat.gcd a.f0.toNat b.f0.toNat == 1)
theorem coprime_PL : PL.all coprime = true := by kernel_rfl
theorem EL_sub {p : List Nat} {m n : Nat} (h : m ≤ n) : ∀ e ∈ EL p m, e ∈ EL p n := fun e he => by
  have := EL_cap p m (n - m)
  rw [show m + (n - m) = n by omega] at this
  rw [← this] at he
  exact (List.mem_filter.1 he).1
theorem EL_length {p : List Nat} (hp : p ∈ PL) {H : Nat} (h : H ≤ 130) : (EL p H).length ≤ 70 := by
  have h1 := List.all_eq_true.1 sane_PL p hp
  unfold sane at h1
  rw [Bool.and_eq_true] at h1
  have h2 := of_decide_eq_true h1.1
  have := EL_cap p H (130 - H)
  rw [show H + (130 - H) = 130 by omega] at this
  rw [← this]
  unfold cap
  exact Nat.le_trans (List.length_filter_le _ _) h2
theorem EL_sane {p : List Nat} (hp : p ∈ PL) {H : Nat} (h : H ≤ 130) : ∀ e ∈ EL p H, e.f1.length = p.length ∧ ∀ n ∈ e.f1, 0 ≤ n ∧ n ≤ 7 := fun e he => by
  have h1 := List.all_eq_true.1 sane_PL p hp
  unfold sane at h1
  rw [Bool.and_eq_true] at h1
  have h2 := List.all_eq_true.1 h1.2 e (EL_sub h e he)
  rw [Bool.and_eq_true] at h2
  refine ⟨of_decide_eq_true h2.1, fun n hn => ?_⟩
  have := List.all_eq_true.1 h2.2 n hn
  simpa using this
theorem EL_apt {p : List Nat} (hp : p ∈ PL) {H : Nat} (h : H ≤ 130) : ∀ a ∈ EL p H, ∀ b ∈ EL p H, apt a.f1 b.f1 = (Nat.gcd a.f0.toNat b.f0.toNat == 1) := fun a ha b hb => by
  have h1 := List.all_eq_true.1 coprime_PL p hp
  have h2 := List.all_eq_true.1 (List.all_eq_true.1 h1 a (EL_sub h a ha)) b (EL_sub h b hb)
  exact eq_of_beq h2
theorem PL_length {p : List Nat} (hp : p ∈ PL) : 1 ≤ p.length ∧ p.length ≤ 4 := by
  have : PL.all (fun p => decide (1 ≤ p.length ∧ p.length ≤ 4)) = true := by decide
  simpa using List.all_eq_true.1 this p hp
theorem sub_some {p : List Nat} (hp : p ∈ PL) {x y : List Int} (hx : x.length = p.length) (hy : y.length = p.length) (bx : ∀ n ∈ x, 0 ≤ n ∧ n ≤ 7) (by_ : ∀ n ∈ y, 0 ≤ n ∧ n ≤ 7) : g_row_Sub.f x y = some (subL x y, 0) := by
  have hl := PL_length hp
  unfold g_row_Sub.f
  have fit : ∀ l : List Int, (∀ n ∈ l, -7 ≤ n ∧ n ≤ 7) → l.all fitE = true := fun l h => List.all_eq_true.2 fun n hn => by
    have := h n hn
    unfold fitE
    simp; omega
  have hz : ∀ n ∈ List.zipWith (fun x y => wrap64 (x - y)) x y, -7 ≤ n ∧ n ≤ 7 := by
    intro n hn
    rw [List.mem_iff_getElem] at hn
    obtain ⟨i, hi, rfl⟩ := hn
    rw [List.getElem_zipWith]
    have h1 := bx _ (List.getElem_mem (by rw [List.length_zipWith] at hi; omega : i < x.length))
    have h2 := by_ _ (List.getElem_mem (by rw [List.length_zipWith] at hi; omega : i < y.length))
    rw [wrap64_id (by omega)]; omega
  rw [if_pos ⟨by omega, by omega, by omega, fit x (fun n hn => by have := bx n hn; omega), fit y (fun n hn => by have := by_ n hn; omega), fit _ hz⟩]
  rfl
def wk (N De : Nat) (a : S83) : List S83 → List (List Int)
  | [] => []
  | e :: t => if e.f0.toNat * N < a.f0.toNat * De then [] else (if apt a.f1 e.f1 = true then [subL a.f1 e.f1] else []) ++ wk N De a t
def rowsOf (N De : Nat) (a : S83) (es : List S83) : List (List Int) := (es.filter fun e => decide (a.f0.toNat * De ≤ e.f0.toNat * N) && apt a.f1 e.f1).map fun e => subL a.f1 e.f1
theorem wk_filter (N De : Nat) (a : S83) : ∀ l : List S83, (l.Pairwise fun e g => g.f0 < e.f0) → wk N De a l = rowsOf N De a l
  | [], _ => rfl
  | e :: t, h => by
    have h1 := List.pairwise_cons.1 h
    have ih := wk_filter N De a t h1.2
    rw [wk]
    unfold rowsOf at ih ⊢
    by_cases hc : e.f0.toNat * N < a.f0.toNat * De
    · rw [if_pos hc]
      symm
      rw [List.map_eq_nil_iff, List.filter_eq_nil_iff]
      intro g hg
      have h2 : g.f0.toNat * N ≤ e.f0.toNat * N := Nat.mul_le_mul_right _ (by
        rcases List.mem_cons.1 hg with rfl | hg
        · exact Nat.le_refl _
        · have := h1.1 g hg; omega)
      simp; omega
    · rw [if_neg hc, ih]
      by_cases ha : apt a.f1 e.f1 = true
      · rw [if_pos ha, List.filter_cons_of_pos (by simp [ha]; omega)]; rfl
      · rw [if_neg ha, List.filter_cons_of_neg (by simp [ha])]; rfl
theorem wk_rev (N De : Nat) (a : S83) {es : List S83} (h : es.Pairwise fun e g => e.f0 < g.f0) : (wk N De a es.reverse).reverse = rowsOf N De a es := by
  rw [wk_filter _ _ _ _ (List.pairwise_reverse.2 h)]
  unfold rowsOf
  rw [List.filter_reverse, List.map_reverse, List.reverse_reverse]
theorem nat_of {e : S83} (h : 1 ≤ e.f0 ∧ e.f0 ≤ 130) : e.f0 = ((e.f0.toNat : Nat) : Int) ∧ e.f0.toNat ≤ 130 := by omega
theorem digits_130 {n : Nat} (h : n ≤ 130) : nDigits n ≤ 3 := digits_le (show n < 10 ^ 3 by omega) (by omega)
theorem cmpN_pos (a b : Nat) : cmpN a b > 0 ↔ b < a := by
  unfold cmpN
  split
  · constructor <;> intro <;> omega
  · split
    · constructor <;> intro <;> omega
    · constructor <;> intro <;> omega
theorem mul_ev {n N : Nat} (hn : n ≤ 130) (hN : nDigits N ≤ 100000) : Ev (fun k => whole_Mul.f k (D n) (D N)) (D (n * N)) ∧ nDigits (n * N) ≤ 100003 := by
  have h1 := digits_130 hn
  exact ⟨wMul_ev n N (by omega), Nat.le_trans (digits_mul n N) (by omega)⟩
theorem in_ev {p : List Nat} (hp : p ∈ PL) {H : Nat} (hH : H ≤ 130) {N De : Nat} (hN : nDigits N ≤ 100000) (hD : nDigits De ≤ 100000) {a : S83} (ha : a ∈ EL p H) (x34 : List S83) (x35 x36 : Int) (o0 : Nat) (R : List (List Int) × Int) :
    ∀ (m : Nat) (out : List (List Int)), m ≤ (EL p H).length → o0 ≤ out.length → out.length + m ≤ 9999 →
    Ev (fun k => comma_List.l0 k (D N) (D De) (EL p H) ((out ++ wk N De a ((EL p H).take m).reverse).take o0 ++ ((out ++ wk N De a ((EL p H).take m).reverse).drop o0).reverse) x34 x35 (wrap64 (x36 + 1))) R →
    Ev (fun k => comma_List.l1 k (D N) (D De) (EL p H) out (D (a.f0.toNat * De)) (o0 : Int) ((m : Int) - 1) x34 x35 x36 a.f0 a.f1) R := by
  intro m
  induction m with
  | zero =>
    intro out _ ho _ hR
    rw [List.take_zero, List.reverse_nil, wk, List.append_nil] at hR
    have hrv : g_rev_Row.f out (o0 : Int) = some (out.take o0 ++ (out.drop o0).reverse) := by
      unfold g_rev_Row.f
      rw [if_pos (by omega), Int.toNat_natCast]
    exact Ev.succ (fun k => by rw [comma_List.l1]) (Ev.neg (by omega) (Ev.pos (by omega) (Ev.pos (by omega) (Ev.bind (Ev.const hrv) hR))))
  | succ m ih =>
    intro out hm ho hl hR
    have hml : m < (EL p H).length := by omega
    have hE := List.getElem_mem hml
    have e1 : (((m + 1 : Nat) : Int) - 1) = (m : Int) := by omega
    have e2 : rd_T83 (EL p H) (m : Int) = (EL p H)[m] := rd83_at (List.getElem?_eq_getElem hml)
    have ew : wrap64 ((m : Int) - 1) = (m : Int) - 1 := by
      have := EL_length hp hH
      exact wrap64_id (by omega)
    have et : ((EL p H).take (m + 1)).reverse = (EL p H)[m] :: ((EL p H).take m).reverse := by
      rw [List.take_succ_eq_append_getElem hml, List.reverse_append]; rfl
    rw [et, wk] at hR
    rw [e1]
    refine Ev.succ (fun k => by rw [comma_List.l1]) ?_
    rw [e2, ew]
    clear ew et e1 e2
    generalize hg : (EL p H)[m] = e at hE hR ⊢
    obtain ⟨n1, n2⟩ := nat_of (EL_f0 p H e hE |> fun h => ⟨h.1, by omega⟩)
    obtain ⟨n3, n4⟩ := nat_of (EL_f0 p H a ha |> fun h => ⟨h.1, by omega⟩)
    obtain ⟨q1, q2⟩ := mul_ev n2 hN
    obtain ⟨q3, q4⟩ := mul_ev n4 hD
    obtain ⟨s1, s2⟩ := EL_sane hp hH e hE
    obtain ⟨s3, s4⟩ := EL_sane hp hH a ha
    have hpl := PL_length hp
    have hof : g_whole_Of.f e.f0 = some (D e.f0.toNat) := by
      conv => lhs; rw [n1]
      exact of_D _ (by omega)
    have hcmp := wCmp_D (a.f0.toNat * De) (e.f0.toNat * N) (by omega) (by omega)
    refine Ev.pos (by omega) (Ev.pos (by omega) (Ev.pos (by omega) (Ev.bind (Ev.const hof) (Ev.bind q1 (Ev.bind (Ev.const hcmp) ?_)))))
    by_cases hc : e.f0.toNat * N < a.f0.toNat * De
    · rw [if_pos hc, List.append_nil] at hR
      have hrv : g_rev_Row.f out (o0 : Int) = some (out.take o0 ++ (out.drop o0).reverse) := by
        unfold g_rev_Row.f
        rw [if_pos (by omega), Int.toNat_natCast]
      exact Ev.pos ((cmpN_pos _ _).2 hc) (Ev.pos (by omega) (Ev.pos (by omega) (Ev.bind (Ev.const hrv) hR)))
    · rw [if_neg hc] at hR
      refine Ev.neg (fun h => hc ((cmpN_pos _ _).1 h)) (Ev.bind (apart_ev _ _ _ _ (by omega) (by omega)) ?_)
      by_cases hap : apt a.f1 e.f1 = true
      · rw [if_pos hap, ← List.append_assoc] at hR
        refine Ev.pos hap (Ev.neg (by omega) (Ev.bind (Ev.const (sub_some hp s3 s1 s4 s2)) (Ev.pos (by omega) ?_)))
        exact ih (out ++ [subL a.f1 e.f1]) (by omega) (by rw [List.length_append]; omega) (by rw [List.length_append, List.length_singleton]; omega) hR
      · rw [if_neg hap, List.nil_append] at hR
        exact Ev.neg hap (ih out (by omega) ho (by omega) hR)
def specFrom (N De : Nat) : List S83 → List S83 → List (List Int)
  | _, [] => []
  | pre, a :: post => rowsOf N De a pre ++ specFrom N De (pre ++ [a]) post
theorem specFrom_snoc (N De : Nat) (a : S83) : ∀ (post pre : List S83), specFrom N De pre (post ++ [a]) = specFrom N De pre post ++ rowsOf N De a (pre ++ post)
  | [], pre => by simp [specFrom]
  | b :: post, pre => by
    rw [List.cons_append, specFrom, specFrom, specFrom_snoc N De a post (pre ++ [b])]
    simp
def spec (p : List Nat) (N De : Nat) : Nat → List (List Int)
  | 0 => []
  | h + 1 => spec p N De h ++ if (ex p (h + 1)).2 = true then rowsOf N De ⟨((h + 1 : Nat) : Int), (ex p (h + 1)).1⟩ (EL p h) else []
theorem specFrom_EL (p : List Nat) (N De : Nat) (H : Nat) : specFrom N De [] (EL p H) = spec p N De H := by
  induction H with
  | zero => rfl
  | succ h ih =>
    rw [EL, spec]
    split
    · rw [specFrom_snoc, ih, List.nil_append]
    · rw [List.append_nil, List.append_nil, ih]
theorem out_ev {p : List Nat} (hp : p ∈ PL) {H : Nat} (hH : H ≤ 130) {N De : Nat} (hN : nDigits N ≤ 100000) (hD : nDigits De ≤ 100000) : ∀ (m i : Nat) (out : List (List Int)), i + m = (EL p H).length → out.length ≤ 70 * i →
    Ev (fun k => comma_List.l0 k (D N) (D De) (EL p H) out (EL p H) ((EL p H).length : Int) (i : Int)) (out ++ specFrom N De ((EL p H).take i) ((EL p H).drop i), 0) := by
  have hE := EL_length hp hH
  intro m
  induction m with
  | zero =>
    intro i out hi ho
    refine Ev.succ (fun k => by rw [comma_List.l0]) (Ev.neg (by omega) ?_)
    rw [List.drop_eq_nil_of_le (by omega), specFrom, List.append_nil]
    exact Ev.pure _
  | succ m ih =>
    intro i out hi ho
    have hil : i < (EL p H).length := by omega
    have ha := List.getElem_mem hil
    have e2 : rd_T83 (EL p H) (i : Int) = (EL p H)[i] := rd83_at (List.getElem?_eq_getElem hil)
    have ew : wrap64 ((i : Int) - 1) = (i : Int) - 1 := wrap64_id (by omega)
    have ew2 : wrap64 ((i : Int) + 1) = ((i + 1 : Nat) : Int) := by rw [wrap64_id (by omega)]; omega
    have hpw : ((EL p H).take i).Pairwise fun e g => e.f0 < g.f0 := (EL_sorted p H).sublist (List.take_sublist _ _)
    refine Ev.succ (fun k => by rw [comma_List.l0]) ?_
    rw [e2, ew, List.drop_eq_getElem_cons hil, specFrom, ← List.take_succ_eq_append_getElem hil]
    clear e2 ew
    generalize hg : (EL p H)[i] = a at ha ⊢
    obtain ⟨n3, n4⟩ := nat_of (EL_f0 p H a ha |> fun h => ⟨h.1, by omega⟩)
    obtain ⟨q3, q4⟩ := mul_ev n4 hD
    have hof : g_whole_Of.f a.f0 = some (D a.f0.toNat) := by
      conv => lhs; rw [n3]
      exact of_D _ (by omega)
    refine Ev.pos (by omega) (Ev.pos (by omega) (Ev.pos (by omega) (Ev.bind (Ev.const hof) (Ev.bind q3 ?_))))
    refine in_ev hp hH hN hD ha _ _ _ out.length _ i out (by omega) (Nat.le_refl _) (by omega) ?_
    rw [List.take_append_of_le_length (Nat.le_refl _), List.take_length, List.drop_append_of_le_length (Nat.le_refl _), List.drop_length, List.nil_append, wk_rev _ _ _ hpw, ew2, ← List.append_assoc]
    clear ew2
    refine ih (i + 1) _ (by omega) ?_
    rw [List.length_append]
    have : (rowsOf N De a ((EL p H).take i)).length ≤ i := by
      unfold rowsOf
      rw [List.length_map]
      refine Nat.le_trans (List.length_filter_le _ _) ?_
      rw [List.length_take]; omega
    omega
theorem listG_ev {p : List Nat} (hp : p ∈ PL) {H : Nat} (hH : H ≤ 130) {N De : Nat} (hN : nDigits N ≤ 100000) (hD : nDigits De ≤ 100000) :
    Ev (fun k => comma_List.l0 k (D N) (D De) (EL p H) ([] : List (List Int)) (EL p H) ((EL p H).length : Int) 0) (spec p N De H, 0) := by
  have := out_ev hp hH hN hD (EL p H).length 0 [] (by omega) (by simp)
  rw [List.take_zero, List.drop_zero, specFrom_EL, List.nil_append] at this
  exact this
end Go.Proofs.YtobdccgpbohpiaaGreatDoor
set_option linter.unusedVariables false
set_option linter.unusedSimpArgs false
namespace Go.Proofs.YtobdccgpbohpiaaGreatDoor
open Go.RowKit Go.Lib F Go.Proofs.YtobdccgpbohpiaaGreatDoorW.PrintWords Go.Proofs.YtobdccgpbohpiaaGreatDoorW.PrintLast Go.Proofs.YtobdccgpbohpiaaGreatDoorW.PrintMore
theorem w64n {i : Nat} (h : i < 4611686018427387904) : wrap64 ((i : Int) + 1) = ((i + 1 : Nat) : Int) := by rw [wrap64_id (by omega)]; rfl
def inL (p : List Nat) (N De : Nat) (a : S83) : Nat → List (List Int × S47)
  | 0 => []
  | m + 1 => inL p N De a m ++ if (ex p (m + 1)).2 = true ∧ Nat.gcd a.f0.toNat (m + 1) = 1 ∧ a.f0.toNat * De ≤ N * (m + 1) then [(subL a.f1 (ex p (m + 1)).1, ⟨a.f0, ((m + 1 : Nat) : Int)⟩)] else []
theorem inL_length (p : List Nat) (N De : Nat) (a : S83) : ∀ m, (inL p N De a m).length ≤ m
  | 0 => Nat.le_refl _
  | m + 1 => by
    have := inL_length p N De a m
    rw [inL, List.length_append]
    split
    · rw [List.length_singleton]; omega
    · rw [List.length_nil]; omega
theorem ex_mem {p : List Nat} {n H : Nat} (h1 : 1 ≤ n) (h2 : n ≤ H) (h : (ex p n).2 = true) : (⟨(n : Int), (ex p n).1⟩ : S83) ∈ EL p H := by
  refine EL_sub h2 _ ?_
  obtain ⟨m, rfl⟩ : ∃ m, n = m + 1 := ⟨n - 1, by omega⟩
  rw [EL, if_pos h]
  exact List.mem_append_right _ (List.mem_singleton.2 rfl)
def law (p : List Nat) (N De : Nat) : Nat → List (List Int × S47)
  | 0 => []
  | h + 1 => law p N De h ++ if (ex p (h + 1)).2 = true then inL p N De ⟨((h + 1 : Nat) : Int), (ex p (h + 1)).1⟩ h else []
theorem law_length {p : List Nat} {N De : Nat} : ∀ m, m ≤ 130 → (law p N De m).length ≤ 130 * m
  | 0, _ => Nat.le_refl _
  | m + 1, hm => by
    have := law_length (p := p) (N := N) (De := De) m (by omega)
    rw [law, List.length_append]
    split
    · have := inL_length p N De ⟨((m + 1 : Nat) : Int), (ex p (m + 1)).1⟩ m
      omega
    · rw [List.length_nil]; omega
theorem inL_rows {p : List Nat} (hp : p ∈ PL) {N De : Nat} (a : S83) (ha : a ∈ EL p 130) : ∀ m, m ≤ 130 → (inL p N De a m).map Prod.fst = rowsOf N De a (EL p m)
  | 0, _ => rfl
  | m + 1, hm => by
    have ih := inL_rows hp a ha m (by omega) (N := N) (De := De)
    unfold rowsOf at ih ⊢
    rw [inL, EL, List.map_append, ih, List.filter_append, List.map_append]
    congr 1
    by_cases hs : (ex p (m + 1)).2 = true
    · have hap := EL_apt hp (Nat.le_refl 130) a ha _ (ex_mem (n := m + 1) (H := 130) (by omega) hm hs)
      rw [Int.toNat_natCast] at hap
      rw [if_pos hs]
      by_cases hc : Nat.gcd a.f0.toNat (m + 1) = 1 ∧ a.f0.toNat * De ≤ N * (m + 1)
      · rw [if_pos ⟨hs, hc⟩, List.filter_cons_of_pos]
        · rfl
        · rw [hap, hc.1, Int.toNat_natCast, Nat.mul_comm (m + 1) N, decide_eq_true hc.2]; rfl
      · rw [if_neg (fun h => hc h.2), List.filter_cons_of_neg]
        · rfl
        · rw [hap, Int.toNat_natCast, Nat.mul_comm (m + 1) N, Bool.and_eq_true, decide_eq_true_eq, beq_iff_eq]
          exact fun h => hc ⟨h.2, h.1⟩
    · rw [if_neg hs, if_neg (fun h => hs h.1)]; rfl
theorem law_spec {p : List Nat} (hp : p ∈ PL) {N De : Nat} : ∀ m, m ≤ 130 → (law p N De m).map Prod.fst = spec p N De m
  | 0, _ => rfl
  | m + 1, hm => by
    rw [law, spec, List.map_append, law_spec hp m (by omega)]
    congr 1
    split
    · rename_i hs
      exact inL_rows hp _ (ex_mem (n := m + 1) (H := 130) (by omega) hm hs) m (by omega)
    · rfl
end Go.Proofs.YtobdccgpbohpiaaGreatDoor
set_option linter.unusedVariables false
set_option linter.unusedSimpArgs false
namespace Go.Proofs.YtobdccgpbohpiaaGreatDoor
open Go.RowKit Go.Lib F Go.Proofs.YtobdccgpbohpiaaGreatDoorW.PrintWords Go.Proofs.YtobdccgpbohpiaaGreatDoorW.PrintLast Go.Proofs.YtobdccgpbohpiaaGreatDoorW.PrintMore
theorem same12_loop (x y : List Int) (hl : x.length = y.length) (hb : x.length < 4611686018427387904) : ∀ (m i : Nat), i + m = x.length → Ev (fun k => schismalaw12_Same.l0 k x y i) (decide (x.drop i = y.drop i)) := by
  intro m
  induction m with
  | zero =>
    intro i hi
    refine Ev.succ (fun k => by rw [schismalaw12_Same.l0]) (Ev.neg (by omega) ?_)
    rw [List.drop_eq_nil_of_le (by omega), List.drop_eq_nil_of_le (by omega), decide_eq_true rfl]
    exact Ev.pure _
  | succ m ih =>
    intro i hi
    have hix : i < x.length := by omega
    have hiy : i < y.length := by omega
    have h3 := ih (i + 1) (by omega)
    have e1 : rd x (i : Int) = x[i] := by rw [rd_nat, List.getD_eq_getElem?_getD, List.getElem?_eq_getElem hix]; rfl
    have e2 : rd y (i : Int) = y[i] := by rw [rd_nat, List.getD_eq_getElem?_getD, List.getElem?_eq_getElem hiy]; rfl
    refine Ev.succ (fun k => by rw [schismalaw12_Same.l0]) ?_
    rw [w64n (by omega), e1, e2, List.drop_eq_getElem_cons hix, List.drop_eq_getElem_cons hiy]
    clear e1 e2
    refine Ev.pos (by omega) (Ev.pos (by omega) (Ev.pos (by omega) ?_))
    generalize x[i] = a
    generalize y[i] = b
    generalize hu : x.drop (i + 1) = u at h3 ⊢
    generalize hv : y.drop (i + 1) = v at h3 ⊢
    by_cases h : a = b
    · have : decide (a :: u = b :: v) = decide (u = v) := by simp [h]
      rw [this]
      exact Ev.pos h h3
    · have : decide (a :: u = b :: v) = false := by simp [h]
      rw [this]
      exact Ev.neg h (Ev.pure _)
theorem same12_ev (x y : List Int) (hb : x.length < 4611686018427387904) : Ev (fun k => schismalaw12_Same.f k x y) (decide (x = y)) := by
  unfold schismalaw12_Same.f
  by_cases h : x.length = y.length
  · have := same12_loop x y h hb x.length 0 (by omega)
    rw [List.drop_zero, List.drop_zero] at this
    exact Ev.pos (by omega) this
  · rw [decide_eq_false (fun e => h (by rw [e]))]
    exact Ev.neg (by omega) (Ev.pure _)
theorem rdL1_at {l : List (List Int)} {i : Nat} (h : i < l.length) : rd_L1 l (i : Int) = l[i] := by
  unfold rd_L1
  rw [Int.toNat_natCast, List.getD_eq_getElem?_getD, List.getElem?_eq_getElem h]; rfl
theorem same_loop (x y : List (List Int)) (hl : x.length = y.length) (hb : x.length < 4611686018427387904) (ha : ∀ r ∈ x, r.length < 4611686018427387904) : ∀ (m i : Nat), i + m = x.length → Ev (fun k => schismalaw16_same.l0 k x y i) (decide (x.drop i = y.drop i)) := by
  intro m
  induction m with
  | zero =>
    intro i hi
    refine Ev.succ (fun k => by rw [schismalaw16_same.l0]) (Ev.neg (by omega) ?_)
    rw [List.drop_eq_nil_of_le (by omega), List.drop_eq_nil_of_le (by omega), decide_eq_true rfl]
    exact Ev.pure _
  | succ m ih =>
    intro i hi
    have hix : i < x.length := by omega
    have hiy : i < y.length := by omega
    have h3 := ih (i + 1) (by omega)
    have hlen := ha _ (List.getElem_mem hix)
    refine Ev.succ (fun k => by rw [schismalaw16_same.l0]) ?_
    rw [w64n (by omega), rdL1_at hix, rdL1_at hiy, List.drop_eq_getElem_cons hix, List.drop_eq_getElem_cons hiy]
    refine Ev.pos (by omega) (Ev.pos (by omega) (Ev.pos (by omega) ?_))
    generalize x[i] = a at hlen ⊢
    generalize y[i] = b
    generalize hu : x.drop (i + 1) = u at h3 ⊢
    generalize hv : y.drop (i + 1) = v at h3 ⊢
    refine Ev.bind (same12_ev a b hlen) ?_
    by_cases h : a = b
    · have : decide (a :: u = b :: v) = decide (u = v) := by simp [h]
      rw [this]
      exact Ev.pos (decide_eq_true h) h3
    · have : decide (a :: u = b :: v) = false := by simp [h]
      rw [this]
      exact Ev.neg (by rw [decide_eq_false h]; decide) (Ev.pure _)
theorem same_ev (x y : List (List Int)) (hb : x.length < 4611686018427387904) (ha : ∀ r ∈ x, r.length < 4611686018427387904) : Ev (fun k => schismalaw16_same.f k x y) (decide (x = y)) := by
  unfold schismalaw16_same.f
  by_cases h : x.length = y.length
  · have := same_loop x y h hb ha x.length 0 (by omega)
    rw [List.drop_zero, List.drop_zero] at this
    exact Ev.pos (by omega) this
  · rw [decide_eq_false (fun e => h (by rw [e]))]
    exact Ev.neg (by omega) (Ev.pure _)
theorem prime_PL : PL.all (fun p => prime_Check.f 40 (ints p) == some 0) = true := by kernel_rfl
theorem prime_ev {p : List Nat} (hp : p ∈ PL) : Ev (fun k => prime_Check.f k (ints p)) 0 :=
  Ev.of_mono (fun k => prime_Check.mono _ k) (eq_of_beq (List.all_eq_true.1 prime_PL p hp))
def big (x : List Int) : Bool := x.any fun n => decide (n > 1000) || decide (n < -1000)
def rowsErr (n : Nat) : List (List Int) → Int
  | [] => 0
  | x :: l => if x.length = n then (if big x = true then 4 else rowsErr n l) else 5
theorem chk_in (p : List Int) (l : List (List Int)) (n i : Int) (x : List Int) (hb : x.length < 4611686018427387904) (r : Int) (hR : Ev (fun k => monzo_CheckAll.l0 k p l n (wrap64 (i + 1))) r) : ∀ (m j : Nat), j + m = x.length →
    Ev (fun k => monzo_CheckAll.l1 k p l n i x (x.length : Int) (j : Int)) (if big (x.drop j) = true then 4 else r) := by
  intro m
  induction m with
  | zero =>
    intro j hj
    rw [List.drop_eq_nil_of_le (by omega), if_neg (by decide : ¬ big [] = true)]
    exact Ev.succ (fun k => by rw [monzo_CheckAll.l1]) (Ev.neg (by omega) hR)
  | succ m ih =>
    intro j hj
    have hjx : j < x.length := by omega
    have h3 := ih (j + 1) (by omega)
    have e1 : rd x (j : Int) = x[j] := by rw [rd_nat, List.getD_eq_getElem?_getD, List.getElem?_eq_getElem hjx]; rfl
    refine Ev.succ (fun k => by rw [monzo_CheckAll.l1]) ?_
    rw [w64n (by omega), e1, List.drop_eq_getElem_cons hjx]
    clear e1
    have e2 : big (x[j] :: x.drop (j + 1)) = ((decide (x[j] > 1000) || decide (x[j] < -1000)) || big (x.drop (j + 1))) := rfl
    rw [e2]
    refine Ev.pos (by omega) (Ev.pos (by omega) (Ev.pos (by omega) ?_))
    by_cases h1 : x[j] > 1000
    · rw [if_pos (by simp [h1])]
      exact Ev.pos h1 (Ev.pure _)
    · refine Ev.neg h1 ?_
      by_cases h2 : x[j] < -1000
      · rw [if_pos (by simp [h2])]
        exact Ev.pos h2 (Ev.pure _)
      · refine Ev.neg h2 ?_
        rw [decide_eq_false h1, decide_eq_false h2, Bool.or_self, Bool.false_or]
        exact h3
theorem chk_loop (p : List Int) (l : List (List Int)) (hb : l.length < 4611686018427387904) (ha : ∀ x ∈ l, x.length < 4611686018427387904) : ∀ (m i : Nat), i + m = l.length →
    Ev (fun k => monzo_CheckAll.l0 k p l (l.length : Int) (i : Int)) (rowsErr p.length (l.drop i)) := by
  intro m
  induction m with
  | zero =>
    intro i hi
    rw [List.drop_eq_nil_of_le (by omega), rowsErr]
    refine Ev.succ (fun k => by rw [monzo_CheckAll.l0]) (Ev.neg ?_ (Ev.pure _))
    omega
  | succ m ih =>
    intro i hi
    have hil : i < l.length := by omega
    have h3 := ih (i + 1) (by omega)
    have hx := ha _ (List.getElem_mem hil)
    rw [← w64n (i := i) (by omega)] at h3
    refine Ev.succ (fun k => by rw [monzo_CheckAll.l0]) ?_
    rw [rdL1_at hil, List.drop_eq_getElem_cons hil, rowsErr]
    refine Ev.pos (by omega) (Ev.pos (by omega) (Ev.pos (by omega) ?_))
    by_cases hc : l[i].length = p.length
    · rw [if_pos hc]
      refine Ev.pos (by omega) ?_
      exact chk_in p l _ _ _ hx _ h3 (l[i]).length 0 (by omega)
    · rw [if_neg hc]
      exact Ev.neg (by omega) (Ev.pure _)
theorem checkAll_ev {p : List Nat} (hp : p ∈ PL) (l : List (List Int)) (hb : l.length < 4611686018427387904) (ha : ∀ x ∈ l, x.length < 4611686018427387904) : Ev (fun k => monzo_CheckAll.f k (ints p) l) (rowsErr p.length l) := by
  unfold monzo_CheckAll.f
  refine Ev.bind (prime_ev hp) (Ev.pos rfl ?_)
  have := chk_loop (ints p) l hb ha l.length 0 (by omega)
  have e3 : (ints p).length = p.length := by unfold ints; rw [List.length_map]
  rw [List.drop_zero, e3] at this
  exact this
structure Few (p : List Nat) (x : List Int) : Prop where
  len : x.length = p.length
  exps : ∀ n ∈ x, -1000 ≤ n ∧ n ≤ 1000
theorem PL_primes {p : List Nat} (hp : p ∈ PL) : ∀ a ∈ p, 2 ≤ a ∧ a < 16 := fun a ha => by
  have : PL.all (fun p => p.all fun a => decide (2 ≤ a ∧ a < 16)) = true := by decide
  simpa using List.all_eq_true.1 (List.all_eq_true.1 this p hp) a ha
theorem Few.fits {p : List Nat} (hp : p ∈ PL) {x : List Int} (h : Few p x) : Fits p x := ⟨h.len, by have := PL_length hp; omega, fun a ha => by have := PL_primes hp a ha; omega, h.exps⟩
theorem Few.big {p : List Nat} {x : List Int} (h : Few p x) : big x = false := by
  unfold Go.Proofs.YtobdccgpbohpiaaGreatDoor.big
  rw [List.any_eq_false]
  intro n hn
  have := h.exps n hn
  simp; omega
theorem side_digits {p : List Nat} (hp : p ∈ PL) : ∀ {x : List Int}, Few p x → nDigits (numN p x) ≤ 100000 ∧ nDigits (denN p x) ≤ 100000 := by
  intro x h
  have := fits_digits p x (fun a ha => by have := PL_primes hp a ha; omega) h.exps
  have := PL_length hp
  omega
theorem sign_ev {p : List Nat} (hp : p ∈ PL) {x : List Int} (h : Few p x) : Ev (fun k => monzo_Sign.f k (ints p) x) (cmpN (numN p x) (denN p x), 0) := by
  have hd := side_digits hp h
  have hl := PL_length hp
  have hc := checkAll_ev hp [x] (by simp) (fun y hy => by rw [List.mem_singleton.1 hy, h.len]; omega)
  rw [rowsErr, if_pos h.len, h.big, if_neg (by decide), rowsErr] at hc
  unfold monzo_Sign.f monzo_Check.f
  exact Ev.bind (Ev.bind hc (Ev.pure _)) (Ev.pos rfl (Ev.bind (sides_ev p x (h.fits hp)).2 (Ev.bind (Ev.const (dCmp_D _ _ (by omega) (by omega))) (Ev.pure _))))
theorem check_ev {p : List Nat} (hp : p ∈ PL) {x : List Int} (h : Few p x) {H : Nat} (h1 : 1 ≤ H) (h2 : H ≤ 130) (hg : denN p x < numN p x) : Ev (fun k => comma_Check.f k (ints p) (H : Int) x) 0 := by
  unfold comma_Check.f
  refine Ev.bind (sign_ev hp h) (Ev.pos rfl (Ev.neg (by omega) ?_))
  rw [decide_eq_false (by omega : ¬ (H : Int) > 5000)]
  have := (cmpN_pos _ _).2 hg
  exact Ev.succ (fun k => by rw [comma_Check.j0]) (Ev.neg (by decide) (Ev.neg (by show ¬ cmpN _ _ ≤ 0; omega) (Ev.pure _)))
theorem list_ev {p : List Nat} (hp : p ∈ PL) {x : List Int} (h : Few p x) {H : Nat} (h1 : 1 ≤ H) (h2 : H ≤ 130) (hg : denN p x < numN p x) : Ev (fun k => comma_List.f k (ints p) (H : Int) x) (spec p (numN p x) (denN p x) H, 0) := by
  have hd := side_digits hp h
  unfold comma_List.f
  exact Ev.bind (check_ev hp h h1 h2 hg) (Ev.pos rfl (Ev.bind (sides_ev p x (h.fits hp)).1 (Ev.bind (numbers_ev hp h1 h2) (listG_ev hp h2 hd.1 hd.2))))
end Go.Proofs.YtobdccgpbohpiaaGreatDoor
