/- Ch: a part of the proof. -/
import Derived.Outline
import Derived.Shelf.Abstract
import Derived.Test.YtobdccgpbohpiaaGreatDoorCh2
import Derived.WalkLawsBesides
import Derived.WalkSpells
set_option linter.unusedVariables false
set_option linter.unusedSimpArgs false
namespace Go.Proofs.YtobdccgpbohpiaaGreatDoor
open Go.RowKit Go.Proofs.YtobdccgpbohpiaaGreatDoorW.PrintWords Go.Proofs.YtobdccgpbohpiaaGreatDoorW.PrintLast Go.Proofs.YtobdccgpbohpiaaGreatDoorW.PrintMore
def g_Clone_Row.f (l : List Int) : Option (List Int) := if l.length ≤ 1000000000000 then some l else none
set_option maxHeartbeats 2000000 in
set_option maxRecDepth 100000 in
theorem g_Clone_Row.calls (A0 : Option Addr) (c0 : Nat) (l0 : List Int) (r : List Int) (w : World) (hr0 : Kd.C (Kd.int .i64) w A0 l0.length l0) (hc0 : l0.length ≤ c0) (h : g_Clone_Row.f l0 = some r) :
    Calls Tryz.prog 50 #[.slice A0 l0.length c0] w fun e w' => ∃ v0_ : Value, e = .returned (v0_) ∧ Kd.R (Kd.int .i64) 3 w' w.heap.size (fun _ => True) v0_ r ∧ Below w.heap.size w w' := by
  unfold g_Clone_Row.f at h
  by_cases hb : l0.length ≤ 1000000000000
  · rw [if_pos hb] at h
    obtain rfl := Option.some.inj h
    clear h
    have q : ∀ (w : World) (a : Option Addr) (n c n' c' : Nat), (binOp .eql 30 (.slice a n c) (.slice none n' c')).run Tryz.prog w = .ok (.bool a.isNone) w := fun w a n c n' c' => Lib.run_eql_slice_nil w _ _ a n c n' c' Tryz.underlying30
    cases A0 with
    | none =>
      have e : l0 = [] := by
        cases l0 with
        | nil => rfl
        | cons x l => obtain ⟨ad, he, _⟩ := hr0.2.2 (by simp); cases he
      subst e
      clear hr0
      go_enter Tryz.func50, Tryz.ntmps50
      go_wp2
      go_ret
      exact ⟨_, rfl, Kd.R_nil _ _ _ _ _, Below.refl _ _⟩
    | some ad =>
      obtain ⟨i0, hi, hz0, hz1, hz2⟩ := info_parts info3
      have A : Aside0 (Kd.C (Kd.int .i64) w (some ad) l0.length l0) := ⟨hr0⟩
      clear hr0
      have HCC := Aside0.mk hc0
      clear hc0
      go_enter Tryz.func50, Tryz.ntmps50
      go_wp2_with (at_builtin; refine wpList_append_own _ rfl _ _ 30 rfl w.heap.size 3 i0 (.int .i64 0) 1 8 Tryz.underlying30 hi hz0 hz1 hz2 rfl (by decide) _ _ _ rfl (World.ownsRow_made w #[] 0 (Nat.le_refl _) (Nat.zero_le _) rfl) ad l0.length c0 (l0.map (Value.int .i64)) rfl ?qc1 ?qc2 ?qc3 ?qc4 ?qc5 ?qc6 ?_)
      case qc1 => simp
      case qc2 =>
        intro j u hj
        have hjl : j < l0.length := by have := (List.getElem?_eq_some_iff.1 hj).1; simpa using this
        obtain ⟨ad', he, hcell⟩ := Kd.at_int A.out (j : Int) (by omega) (by omega)
        cases he
        rw [Int.toNat_natCast] at hcell
        rw [(((Below.refl w.heap.size w).alloc (Nat.le_refl _) _).cell (World.block_lt_of_cell? w _ hcell)).trans hcell, ← hj]
        simp [rd, List.getElem?_eq_getElem hjl]
      case qc3 => intro u hu; obtain ⟨x, _, rfl⟩ := List.mem_map.1 hu; rfl
      case qc4 => unfold maxLen; omega
      case qc5 => omega
      case qc6 => simp
      intro v' w1 hown hgrow hnil
      go_wp2
      go_ret
      refine ⟨v', rfl, ?_, ?_⟩
      · exact Kd.R_of_own (by simpa [encs] using hown) (fun _ _ => trivial)
      · exact ((Below.refl _ w).alloc (Nat.le_refl _) _).grown hgrow (by simp) (by intro k hk; simp [Value.ownBlock] at hk; omega)
  · rw [if_neg hb] at h
    cases h
def idxP {α : Type} (p : α → Bool) (l : List α) : Int := match l.findIdx? p with
  | some i => (i : Int)
  | none => -1
theorem idxP_at {p : Int → Bool} {l : List Int} {m : Nat} (hm : m < l.length) (hp : p l[m] = true) (hq : ∀ j, (h : j < m) → p (l[j]'(by omega)) = false) : idxP p l = m := by
  have e : l.findIdx? p = some m := by
    rw [List.findIdx?_eq_some_iff_getElem]
    exact ⟨hm, hp, fun j hj => by simp [hq j hj]⟩
  unfold idxP
  rw [e]
theorem idxP_none {p : Int → Bool} {l : List Int} (hq : ∀ j, (h : j < l.length) → p l[j] = false) : idxP p l = -1 := by
  have e : l.findIdx? p = none := by
    rw [List.findIdx?_eq_none_iff]
    intro x hx
    obtain ⟨j, hj, rfl⟩ := List.getElem_of_mem hx
    exact hq j hj
  unfold idxP
  rw [e]
set_option maxHeartbeats 2000000 in
set_option maxRecDepth 100000 in
theorem indexFunc_Row (g : Nat) (cb : Array Value) (p : Int → Bool) (A0 : Option Addr) (c0 : Nat) (l0 : List Int) (w : World) (eg : ∀ args w, (callFunc g args).run Tryz.prog w = .ok (.enter g args) w)
    (hp : ∀ x, Calls Tryz.prog g (#[.int .i64 x] ++ cb) w fun e w' => e = .returned (.bool (p x)) ∧ w = w') (hr0 : Kd.C (Kd.int .i64) w A0 l0.length l0) :
    Calls Tryz.prog 95 #[.slice A0 l0.length c0, .func (.func g) #[] cb] w fun e w' => e = .returned (.int .i64 (idxP p l0)) ∧ w = w' := by
  have hlen := hr0.2.1
  have HR := Aside0.mk hr0
  clear hr0
  go_enter Tryz.func95, Tryz.ntmps95
  go_wp2
  go_loop [5, 8] (fun v5 v8 => ∃ (m : Nat), v8 = .int .i64 m ∧ m ≤ l0.length ∧ Aside0 (∀ j, (h : j < m) → (h' : j < l0.length) → p l0[j] = false)) (fun _ v8 => l0.length - (intOf v8).toNat)
  case atStart => exact ⟨0, rfl, by omega, ⟨fun j h => by omega⟩⟩
  case round =>
    obtain ⟨m, rfl, hm, HQ⟩ := hrel
    by_cases hlt : m < l0.length
    · obtain ⟨ad, rfl, hc⟩ := Kd.at_int HR.out (m : Int) (by omega) (by omega)
      rw [Int.toNat_natCast] at hc
      obtain ⟨z, hz⟩ : ∃ z, z = rd l0 m := ⟨_, rfl⟩
      rw [← hz] at hc
      have HZ := Aside0.mk hz
      clear hz
      have hz' : l0[m] = z := by rw [HZ.out]; simp [rd, List.getElem?_eq_getElem hlt]
      have HZ2 := Aside0.mk hz'
      clear hz'
      cases hb : p z with
      | true =>
        have hpz := hp z
        rw [hb] at hpz
        have HB := Aside0.mk hb
        clear hb hp
        go_wp2_with (go_at_fn g; refine hpz.mono ?_; rintro e w' ⟨rfl, rfl⟩)
        go_ret
        exact ⟨by rw [idxP_at hlt (by rw [HZ2.out]; exact HB.out) (fun j hj => HQ.out j hj (by omega))]; rfl, rfl⟩
      | false =>
        have hpz := hp z
        rw [hb] at hpz
        have HB := Aside0.mk hb
        clear hb hp
        go_wp2_with (go_at_fn g; refine hpz.mono ?_; rintro e w' ⟨rfl, rfl⟩)
        go_round
        case measure => simp [intOf]; omega
        case rel =>
          refine ⟨m + 1, by go_num, by omega, ⟨fun j hj hj' => ?_⟩⟩
          by_cases hjm : j < m
          · exact HQ.out j hjm hj'
          · have : j = m := by omega
            subst this
            rw [HZ2.out]
            exact HB.out
    · go_wp2
      go_ret
      exact ⟨by rw [idxP_none (fun j hj => HQ.out j (by omega) hj)]; rfl, rfl⟩
set_option maxHeartbeats 2000000 in
theorem containsFunc_Row (g : Nat) (cb : Array Value) (p : Int → Bool) (A0 : Option Addr) (c0 : Nat) (l0 : List Int) (w : World) (eg : ∀ args w, (callFunc g args).run Tryz.prog w = .ok (.enter g args) w)
    (hp : ∀ x, Calls Tryz.prog g (#[.int .i64 x] ++ cb) w fun e w' => e = .returned (.bool (p x)) ∧ w = w') (hr0 : Kd.C (Kd.int .i64) w A0 l0.length l0) :
    Calls Tryz.prog 63 #[.slice A0 l0.length c0, .func (.func g) #[] cb] w fun e w' => e = .returned (.bool (l0.any p)) ∧ w = w' := by
  have hc := indexFunc_Row g cb p A0 c0 l0 w eg hp hr0
  clear hr0 hp eg
  cases hb : l0.any p with
  | true =>
    have h0 : 0 ≤ idxP p l0 := by
      unfold idxP
      cases h : l0.findIdx? p with
      | none =>
        rw [List.findIdx?_eq_none_iff] at h
        obtain ⟨x, hx, hpx⟩ := List.any_eq_true.1 hb
        rw [h x hx] at hpx
        cases hpx
      | some i => exact Int.natCast_nonneg i
    obtain ⟨n, hn⟩ : ∃ n, n = idxP p l0 := ⟨_, rfl⟩
    rw [← hn] at hc h0
    clear hn hb
    go_enter Tryz.func63, Tryz.ntmps63
    go_wp2_with (go_at_call 95; refine hc.mono ?_; rintro e w' ⟨rfl, rfl⟩)
    go_ret
    exact ⟨rfl, rfl⟩
  | false =>
    have h0 : idxP p l0 = -1 := by
      refine idxP_none (fun j hj => ?_)
      have h := List.any_eq_false.1 hb l0[j] (List.getElem_mem hj)
      simpa using h
    rw [h0] at hc
    clear hb h0
    go_enter Tryz.func63, Tryz.ntmps63
    go_wp2_with (go_at_call 95; refine hc.mono ?_; rintro e w' ⟨rfl, rfl⟩)
    go_ret
    exact ⟨rfl, rfl⟩
def fitE (n : Int) : Bool := decide (-1000000000 ≤ n) && decide (n ≤ 1000000000)
theorem rowCheck1 (x : Int) (w : World) : Calls Tryz.prog 150 #[.int .i64 x] w fun e w' => e = .returned (.bool (!fitE x)) ∧ w = w' := by
  unfold fitE
  by_cases h1 : -1000000000 ≤ x <;> by_cases h2 : x ≤ 1000000000
  all_goals
    go_enter Tryz.func150, Tryz.ntmps150
    go_wp2
    go_ret
    exact ⟨by simp [*], rfl⟩
theorem any_not {α : Type} (p : α → Bool) (l : List α) : (l.any fun x => !p x) = !(l.all p) := by
  induction l with
  | nil => rfl
  | cons x l ih => rw [List.any_cons, List.all_cons, ih]; cases p x <;> rfl
def g_row_Check.f (l : List Int) : Option Int := if l.length > 64 then some 4 else if l.all fitE then some 0 else some 4
set_option maxHeartbeats 2000000 in
set_option maxRecDepth 100000 in
theorem row_Check_same (A0 : Option Addr) (c0 : Nat) (l0 : List Int) (r : Int) (w : World) (hr0 : Kd.C (Kd.int .i64) w A0 l0.length l0) (hc0 : l0.length ≤ c0) (h : g_row_Check.f l0 = some r) :
    Calls Tryz.prog 105 #[.slice A0 l0.length c0] w fun e w' => e = .returned (.int .i64 r) ∧ w = w' := by
  have hk := containsFunc_Row 150 #[] (fun x => !fitE x) A0 c0 l0 w (enters_of Tryz.func150 (by kernel_rfl) rfl) (fun x => rowCheck1 x w) hr0
  unfold g_row_Check.f at h
  clear hr0 hc0
  by_cases h64 : l0.length > 64
  · rw [if_pos h64] at h
    obtain rfl := Option.some.inj h
    clear h hk
    go_enter Tryz.func105, Tryz.ntmps105
    go_wp2
    all_goals go_ret
    all_goals exact ⟨rfl, rfl⟩
  · rw [if_neg h64] at h
    have e := any_not fitE l0
    rw [e] at hk
    clear e
    cases hb : l0.all fitE with
    | true =>
      rw [hb] at h hk
      obtain rfl := Option.some.inj h
      clear h hb
      go_enter Tryz.func105, Tryz.ntmps105
      go_wp2_with (go_at_call 63; refine hk.mono ?_; rintro e w' ⟨rfl, rfl⟩)
      all_goals go_ret
      all_goals exact ⟨rfl, rfl⟩
    | false =>
      rw [hb] at h hk
      obtain rfl := Option.some.inj h
      clear h hb
      go_enter Tryz.func105, Tryz.ntmps105
      go_wp2_with (go_at_call 63; refine hk.mono ?_; rintro e w' ⟨rfl, rfl⟩)
      all_goals go_ret
      all_goals exact ⟨rfl, rfl⟩
theorem check_fit {l : List Int} (h : l.length ≤ 64) (ha : l.all fitE = true) : g_row_Check.f l = some 0 := by
  unfold g_row_Check.f
  rw [if_neg (by omega), if_pos ha]
set_option maxHeartbeats 2000000 in
theorem both_ok (A0 : Option Addr) (c0 : Nat) (l0 : List Int) (A1 : Option Addr) (c1 : Nat) (l1 : List Int) (w : World) (hr0 : Kd.C (Kd.int .i64) w A0 l0.length l0) (hc0 : l0.length ≤ c0) (hr1 : Kd.C (Kd.int .i64) w A1 l1.length l1) (hc1 : l1.length ≤ c1)
    (h0 : l0.length ≤ 64) (h1 : l1.length = l0.length) (ha : l0.all fitE = true) (hb : l1.all fitE = true) :
    Calls Tryz.prog 82 #[.slice A0 l0.length c0, .slice A1 l1.length c1] w fun e w' => e = .returned (.int .i64 0) ∧ w = w' := by
  have k0 := row_Check_same A0 c0 l0 0 w hr0 hc0 (check_fit h0 ha)
  have k1 := row_Check_same A1 c1 l1 0 w hr1 hc1 (check_fit (by omega) hb)
  have e1 : ((l0.length : Int) != (l1.length : Int)) = false := by simp [h1]
  clear hr0 hc0 hr1 hc1 ha hb
  have H1 := Aside0.mk h1
  clear h1
  go_enter Tryz.func82, Tryz.ntmps82
  go_wp2_with (go_at_call 105; first | (refine k0.mono ?_; clear k0; rintro e w' ⟨rfl, rfl⟩) | (refine k1.mono ?_; rintro e w' ⟨rfl, rfl⟩))
  go_ret
  exact ⟨rfl, rfl⟩
end Go.Proofs.YtobdccgpbohpiaaGreatDoor
