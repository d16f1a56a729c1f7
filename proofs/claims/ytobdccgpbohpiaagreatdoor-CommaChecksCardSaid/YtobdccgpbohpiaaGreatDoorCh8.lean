/- Ch: a part of the proof. -/
import Derived.BigCall
import Derived.BigGuard
import Derived.BigQuiet
import Derived.Deep.QuietTactic
import Derived.Lib.AppendIntMem
import Derived.Lib.AtoiErrMem
import Derived.Lib.ItoaMem
import Derived.Lib.Walk
import Derived.Outline
import Derived.Test.YtobdccgpbohpiaaGreatDoorCh2
import Derived.Test.YtobdccgpbohpiaaGreatDoorCh7
import Derived.WalkLawsBesides
set_option linter.unusedVariables false
set_option linter.unusedSimpArgs false
namespace Go.Proofs.YtobdccgpbohpiaaGreatDoor
open Go.RowKit Go.Shelf Go.Lib Go.Sort Go.Proofs.YtobdccgpbohpiaaGreatDoorW.PrintWords Go.Proofs.YtobdccgpbohpiaaGreatDoorW.PrintLast Go.Proofs.YtobdccgpbohpiaaGreatDoorW.PrintMore
theorem bel_grow (w : World) (k : Nat) (os : Array Obj) : Below w.heap.size w (grow (w.drewN k) os) := Lib.below_grow _ _ (Nat.le_refl _) _ _
def g_whole_Of.f (n : Int) : Option ByteArray := if -9223372036854775808 ≤ n ∧ n ≤ 9223372036854775807 then some ⟨(Lib.itoa n).toArray⟩ else none
theorem g_whole_Of.calls (a0 : Int) (r : ByteArray) (w : World) (hG : Glob w) (h : g_whole_Of.f a0 = some r) :
    Calls Tryz.prog 41 #[.int .i64 a0] w fun e w' => e = .returned (.string r) ∧ Below w.heap.size w w' := by
  unfold g_whole_Of.f at h
  split at h
  · rename_i hh
    obtain rfl := Option.some.inj h
    have hc := Tryz.strconv_Itoa a0 hh.1 hh.2 w hG.tab
    clear hG hh h
    go_enter Tryz.func41, Tryz.ntmps41
    go_wp2_with (go_at_call 81; refine hc.mono ?_; rintro e w' ⟨rfl, k, os, rfl⟩)
    go_ret
    exact ⟨rfl, bel_grow _ _ _⟩
  · cases h
set_option maxRecDepth 100000 in
set_option maxHeartbeats 2000000 in
theorem int_FormatUint (u : Nat) (hu64 : u < 18446744073709551616) (w : World) (htab : Lib.TabIs Tryz.prog w "internal/strconv.uint64pow10" .u64 Lib.pow10Tab) :
    Calls Tryz.prog 176 #[.int .u64 u, .int .i64 10] w fun e w' => e = .returned (.string ⟨(Lib.decDigits u).toArray⟩) ∧ Below w.heap.size w w' := by
  by_cases hs : u < 100
  · have hsm := Tryz.internal_strconv_small u hs w
    clear htab
    go_enter Tryz.func176, Tryz.ntmps176
    go_wp2_with (go_at_call 193; refine hsm.mono ?_; rintro e w' ⟨rfl, rfl⟩)
    go_ret
    exact ⟨rfl, Below.refl _ _⟩
  · have hu1 : 1 ≤ u := by omega
    have hnd20 : Lib.nDigits u ≤ 20 := by have := Lib.numDigits_eq u hu1 hu64; split at this <;> omega
    have hb3 : Lib.nDigits u ≤ 24 := by omega
    have hal : Tryz.prog.arrayLen 239 = 24 := by simp [Program.arrayLen, Tryz.underlying239]
    have hsl1 : ∀ W, (Instr.sliceAt 239 (.pointer (some ⟨w.heap.size, 0, none⟩)) none (some (.int .i64 (Lib.nDigits u : Int))) none).run Tryz.prog W = .ok (.slice (some ⟨w.heap.size, 0, none⟩) (Lib.nDigits u) 24) W := fun W => by
      rw [run_sliceAt_array_h W 239 ⟨w.heap.size, 0, none⟩ (by simp [Program.arrayLen, Program.elem, Tryz.underlying239]) .i64 (Lib.nDigits u : Int) (by omega) (by rw [hal]; omega)]
      go_simp
    have hH0 := Lib.holds_zero0 w 239 (Lib.nDigits u) hb3
    have hfmt := Tryz.internal_strconv_formatBase10 w.heap.size 0 24 u (Array.replicate (Lib.nDigits u) 0) (w.alloc (.cells Lib.zeros24 239)) hH0 (by rw [Array.size_replicate]; exact Lib.lt_pow_nDigits u) hu64 (by rw [Array.size_replicate]; omega)
    rw [Array.size_replicate] at hfmt
    have HH0 := Lib.hid hH0
    clear hH0 hal
    have hnum := Tryz.internal_strconv_numDigits u hu1 hu64 _ (Lib.tabIs_alloc htab (.cells Lib.zeros24 239))
    clear htab
    go_enter Tryz.func176, Tryz.ntmps176
    go_wp2_with (go_at_call 194; refine hnum.mono ?_; rintro e w' ⟨rfl, rfl⟩)
    go_at_call 195
    refine hfmt.mono ?_
    rintro e w' ⟨rfl, k, v', dk, rfl, hF⟩
    have hcv : (convert 210 9 (.slice (some ⟨w.heap.size, 0, none⟩) (Lib.nDigits u) 24)).run Tryz.prog ((putRow (fun (b : UInt8) => Value.int .u8 (b.toNat : Int)) (w.alloc (.cells Lib.zeros24 239)) w.heap.size 0 dk).drewN k) = .ok (.string ⟨(Lib.decDigits u).toArray⟩) ((putRow (fun (b : UInt8) => Value.int .u8 (b.toNat : Int)) (w.alloc (.cells Lib.zeros24 239)) w.heap.size 0 dk).drewN k) := by
      have h := run_convert_bytes_back (P := Tryz.prog) ((putRow (fun (b : UInt8) => Value.int .u8 (b.toNat : Int)) (w.alloc (.cells Lib.zeros24 239)) w.heap.size 0 dk).drewN k) 210 9 5 ⟨w.heap.size, 0, none⟩ 24 (Lib.decDigits u) Tryz.underlying210 Tryz.underlying5 Tryz.underlying9 (fun j hj => by
        rw [Lib.row_is_numeral hF j hj, Lib.add_plain, World.cell?_drewN]
        exact cell?_putRow (fun (b : UInt8) => Value.int .u8 (b.toNat : Int)) _ w.heap.size 0 _ dk HH0.out (by rw [hF.size, Array.size_replicate]) j (by rw [hF.size]; rw [Lib.decDigits_length] at hj; exact hj))
      rw [Lib.decDigits_length] at h
      exact h
    clear hfmt hnum
    go_wp2
    go_ret
    obtain ⟨os, eo⟩ := Lib.fin_at w (.cells Lib.zeros24 239) dk k 0
    exact ⟨rfl, by rw [eo]; exact bel_grow _ _ _⟩
theorem str_FormatUint (u : Nat) (hu64 : u < 18446744073709551616) (w : World) (htab : Lib.TabIs Tryz.prog w "internal/strconv.uint64pow10" .u64 Lib.pow10Tab) :
    Calls Tryz.prog 137 #[.int .u64 u, .int .i64 10] w fun e w' => e = .returned (.string ⟨(Lib.decDigits u).toArray⟩) ∧ Below w.heap.size w w' := by
  have hc := int_FormatUint u hu64 w htab
  clear htab
  go_enter Tryz.func137, Tryz.ntmps137
  go_wp2_with (go_at_call 176; refine hc.mono ?_; rintro e w' ⟨rfl, hb⟩)
  go_ret
  exact ⟨rfl, hb⟩
def g_decimal_Of.f (n : Int) : Option ByteArray := if 0 ≤ n ∧ n ≤ 18446744073709551615 then some ⟨(Lib.decDigits n.toNat).toArray⟩ else none
theorem g_decimal_Of.calls (a0 : Int) (r : ByteArray) (w : World) (hG : Glob w) (h : g_decimal_Of.f a0 = some r) :
    Calls Tryz.prog 91 #[.int .u64 a0] w fun e w' => e = .returned (.string r) ∧ Below w.heap.size w w' := by
  unfold g_decimal_Of.f at h
  split at h
  · rename_i hh
    obtain rfl := Option.some.inj h
    obtain ⟨u, rfl⟩ : ∃ u : Nat, a0 = u := ⟨a0.toNat, by omega⟩
    have hc := str_FormatUint u (by omega) w hG.tab
    rw [Int.toNat_natCast]
    clear hG hh h
    go_enter Tryz.func91, Tryz.ntmps91
    go_wp2_with (go_at_call 137; refine hc.mono ?_; rintro e w' ⟨rfl, hb⟩)
    go_ret
    exact ⟨rfl, hb⟩
  · cases h
def g_whole_little.f (a : ByteArray) (m : Int) : Option (Int × Bool) :=
  if (a.size : Int) > m then some (0, false) else if a.size > 9223372036854775806 then none else match Lib.atoiAll a.data.toList with
  | .ok v => some (v, true)
  | _ => none
set_option maxHeartbeats 1000000 in
theorem g_whole_little.calls (a0 : ByteArray) (a1 : Int) (r1 : Int) (r2 : Bool) (w : World) (h : g_whole_little.f a0 a1 = some (r1, r2)) :
    Calls Tryz.prog 78 #[.string a0, .int .i64 a1] w fun e w' => e = .returned (.tuple #[.int .i64 r1, .bool r2]) ∧ Below w.heap.size w w' := by
  unfold g_whole_little.f at h
  by_cases h1 : (a0.size : Int) > a1
  · rw [if_pos h1] at h
    obtain ⟨rfl, rfl⟩ := Prod.mk.inj (Option.some.inj h)
    clear h
    go_enter Tryz.func78, Tryz.ntmps78
    go_wp2
    go_ret2
    exact ⟨rfl, Below.refl _ _⟩
  · rw [if_neg h1] at h
    by_cases h2 : a0.size > 9223372036854775806
    · rw [if_pos h2] at h
      cases h
    · rw [if_neg h2] at h
      cases hv : Lib.atoiAll a0.data.toList with
      | ok v =>
        rw [hv] at h
        obtain ⟨rfl, rfl⟩ := Prod.mk.inj (Option.some.inj h)
        have hc := (Tryz.strconv_Atoi_ok a0 (by omega) v hv w).mono (R' := fun e w' => e = .returned (.tuple #[.int .i64 v, .nilIface]) ∧ Below w.heap.size w w') (fun e w' ⟨he, hw⟩ => ⟨he, by rcases hw with rfl | ⟨t, rfl⟩; exact Below.refl _ _; exact Lib.bytesWorld_below _ _ _⟩)
        clear h hv
        go_enter Tryz.func78, Tryz.ntmps78
        go_wp2_with (go_at_call 110; refine hc.mono ?_; rintro e w' ⟨rfl, hb⟩)
        have HB := Aside0.mk hb
        clear hb
        go_quiet (fail)
        go_wp2
        go_ret2
        exact ⟨rfl, pw_below_drewN HB.out _⟩
      | _ => rw [hv] at h; cases h
def g_decimal_Small.f (a : ByteArray) : Option (Int × Bool) := if a.size > 9223372036854775806 then none else match Lib.parseUintB 64 a.data.toList with
  | .ok u => some ((u : Int), true)
  | _ => none
set_option maxHeartbeats 1000000 in
theorem g_decimal_Small.calls (a0 : ByteArray) (r1 : Int) (r2 : Bool) (w : World) (h : g_decimal_Small.f a0 = some (r1, r2)) :
    Calls Tryz.prog 164 #[.string a0] w fun e w' => e = .returned (.tuple #[.int .u64 r1, .bool r2]) ∧ Below w.heap.size w w' := by
  unfold g_decimal_Small.f at h
  by_cases h2 : a0.size > 9223372036854775806
  · rw [if_pos h2] at h
    cases h
  · rw [if_neg h2] at h
    cases hv : Lib.parseUintB 64 a0.data.toList with
    | ok v =>
      rw [hv] at h
      obtain ⟨rfl, rfl⟩ := Prod.mk.inj (Option.some.inj h)
      have hc := (Tryz.strconv_ParseUint_10_at64_ok a0 (by omega) v hv w).mono (R' := fun e w' => e = .returned (.tuple #[.int .u64 v, .nilIface]) ∧ Below w.heap.size w w') (fun e w' ⟨he, hw⟩ => ⟨he, by rcases hw with rfl | rfl; exact Below.refl _ _; exact Lib.bytesWorld_below _ _ _⟩)
      clear h hv
      go_enter Tryz.func164, Tryz.ntmps164
      go_wp2_with (go_at_call 192; refine hc.mono ?_; rintro e w' ⟨rfl, hb⟩)
      go_ret2
      exact ⟨rfl, hb⟩
    | _ => rw [hv] at h; cases h
end Go.Proofs.YtobdccgpbohpiaaGreatDoor
