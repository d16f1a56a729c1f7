/- Ch: a part of the proof. -/
import Derived.Lib.ConvBytes
import Derived.Lib.Walk
import Derived.Test.YtobdccgpbohpiaaGreatDoorCh14
import Derived.Test.YtobdccgpbohpiaaGreatDoorCh5
set_option linter.unusedVariables false
set_option linter.unusedSimpArgs false
namespace Go.Proofs.YtobdccgpbohpiaaGreatDoor
open Go.RowKit F Go.Proofs.YtobdccgpbohpiaaGreatDoorW.PrintWords Go.Proofs.YtobdccgpbohpiaaGreatDoorW.PrintLast Go.Proofs.YtobdccgpbohpiaaGreatDoorW.PrintMore
theorem trim_eq (l : List Int) (hl : l.length < 9223372036854775807) : decimal_pieces_trim.f (l.length + 1) l = some (trimL l) := by
  have key : ∀ (l r : List Int), l = r.reverse → l.length < 9223372036854775807 → decimal_pieces_trim.l0 (l.length + 1) l = some (trimL l) := by
    intro l r
    induction r generalizing l with
    | nil => rintro rfl _; rfl
    | cons c t ih =>
      rintro rfl h
      rw [List.reverse_cons] at h ⊢
      have hlen : (t.reverse ++ [c]).length = t.reverse.length + 1 := by simp
      rw [hlen] at h ⊢
      generalize ht : t.reverse = u at h ⊢
      have hw : wrap64 (((u ++ [c]).length : Int) - 1) = u.length := by
        rw [List.length_append, List.length_singleton]; unfold wrap64; omega
      simp only [decimal_pieces_trim.l0]
      rw [hw]
      have hL : (u ++ [c]).length = u.length + 1 := by simp
      rw [hL, if_pos (by omega), if_pos (by omega), if_pos (by omega)]
      have hr : rd (u ++ [c]) (u.length : Int) = c := by
        simp [rd]
      rw [hr, trimL_snoc]
      by_cases hc : c = 0
      · rw [if_pos hc, if_pos hc, if_pos (by omega)]
        rw [Int.toNat_natCast, List.take_left']
        · exact ih u ht.symm (by omega)
        · rfl
      · rw [if_neg hc, if_neg hc]
  exact key l l.reverse (by simp) hl
theorem cutFrom_length (bs : List UInt8) (e : Nat) : (cutFrom bs e).length ≤ e := by
  induction e using Nat.strongRecOn with
  | _ e ih =>
    rw [cutFrom]
    by_cases h0 : e = 0
    · rw [dif_pos h0]; simp
    · rw [dif_neg h0, List.length_cons]
      have := ih (e - 9) (by omega); omega
def g_decimal_cut.f (a : ByteArray) : Option (List Int) := if isDec a.data.toList = true ∧ a.size ≤ 1000000000000 then some (pcs (decVal a.data.toList)) else none
set_option maxRecDepth 100000 in
set_option maxHeartbeats 4000000 in
theorem g_decimal_cut.calls (a0 : ByteArray) (r : List Int) (w : World) (h : g_decimal_cut.f a0 = some r) :
    Calls Tryz.prog 112 #[.string a0] w fun e w' => ∃ v0_ : Value, e = .returned (v0_) ∧ Kd.R (Kd.int .u64) 145 w' w.heap.size (fun _ => True) v0_ r ∧ Below w.heap.size w w' := by
  unfold g_decimal_cut.f at h
  split at h
  · rename_i hh
    obtain ⟨hd, hs⟩ := hh
    obtain rfl := Option.some.inj h
    clear h
    obtain ⟨bs, hbs⟩ : ∃ bs, bs = a0.data.toList := ⟨_, rfl⟩
    have hn : bs.length = a0.size := by rw [hbs, Lib.size_eq]
    rw [← hbs] at hd ⊢
    have htrim := trim_eq (cutFrom bs bs.length) (by have := cutFrom_length bs bs.length; omega)
    rw [trimL_cutFrom hd bs.length (Nat.le_refl _), List.take_of_length_le (Nat.le_refl _)] at htrim
    have HB := Aside0.mk (Below.refl w.heap.size w)
    have HT := Aside0.mk htrim
    have HD := Aside0.mk hd
    have HBS := Aside0.mk hbs
    have HN := Aside0.mk hn
    have HS := Aside0.mk hs
    have HM1 := Aside0.mk (show 0 ≤ wrap64 (wrap64 ((a0.size : Int) / 9) + 1) by unfold wrap64; omega)
    have HM2 := Aside0.mk (show (wrap64 (wrap64 ((a0.size : Int) / 9) + 1)).toNat * 8 ≤ 281474976710656 by unfold wrap64; omega)
    clear htrim hd hbs hn hs
    go_enter Tryz.func112, Tryz.ntmps112
    go_wp2_with ((with_reducible refine gate_dst (N := 12) rfl ?_); refine g_R_makecap (Kd.int .u64) (w0 := w) w.heap.size 145 rfl (N := 12) rfl 169 _ _ rfl (wrap64 (wrap64 ((a0.size : Int) / 9) + 1)) rfl rfl Tryz.underlying169 (.int .u64 0) 8 info145 rfl (by decide) (by omega) (ok := fun _ => True) trivial HM1.out HM2.out (Below.refl _ _) (Nat.le_refl _) ?_; intro v1 w1 ho hb hg hat; have HO := Aside0.mk ho; clear HB; have HB := Aside0.mk hb; clear ho hb hg hat)
    go_wp2
    go_loopg [3, 4] (a0.size + 1) (fun kq v3 v4 w' => ∃ (l : List Int) (x4 : Int), v4 = .int .i64 x4 ∧ Aside0 (x4 ≤ a0.size ∧ l ++ cutFrom bs x4.toNat = cutFrom bs bs.length ∧ l.length + x4.toNat ≤ a0.size) ∧ Aside0 (x4.toNat < kq) ∧ Aside0 (Kd.R (Kd.int .u64) 145 w' w.heap.size (fun _ => True) v3 l) ∧ Aside0 (Below w.heap.size w w'))
    case atStart => exact ⟨[], (a0.size : Int), rfl, ⟨Int.le_refl _, by rw [Int.toNat_natCast, HN.out]; rfl, by simp⟩, ⟨by simp⟩, HO, HB⟩
    case round =>
      clear HO HB
      obtain ⟨l, x4, rfl, HL, HK, HO, HB⟩ := hrel
      obtain ⟨k1, rfl⟩ : ∃ k1, gk = k1 + 1 := ⟨gk - 1, by have := HK.out; omega⟩
      by_cases hx : x4 > 0
      · have hxd : decide (0 < x4) = true := decide_eq_true hx
        obtain ⟨c, hc⟩ : ∃ c : ByteArray, c = a0.extract (x4 - 9).toNat x4.toNat := ⟨_, rfl⟩
        obtain ⟨hx1, hx2, hx3⟩ := HL.out
        have hcl : c.data.toList = chunk bs x4.toNat := by
          rw [hc, ByteArray.data_extract, Array.toList_extract, HBS.out]
          unfold chunk
          rw [List.extract_eq_take_drop, show (x4 - 9).toNat = x4.toNat - 9 by omega]
          rw [← List.drop_take]
        have hcs : c.size = x4.toNat - (x4.toNat - 9) := by
          rw [show c.size = c.data.toList.length from (Lib.size_eq _).symm, hcl, chunk_length (by rw [HN.out]; omega)]
        have hsl : ∀ W, (Instr.sliceAt 76 (.string a0) (some (.int .i64 (max 0 (wrap64 (x4 - 9))))) (some (.int .i64 x4)) none).run Tryz.prog W = .ok (.string c) W := fun W => by
          have hw : max 0 (wrap64 (x4 - 9)) = ((x4 - 9).toNat : Int) := by have := HS.out; unfold wrap64; omega
          rw [hw, run_sliceAt_string W 76 _ _ _ _ Tryz.underlying76]
          have h1 : ((x4 - 9).toNat : Int) ≤ x4 := by omega
          go_simp
          simp [hx1, h1, Int.toNat_of_nonneg (show 0 ≤ x4 by omega), (show 0 ≤ x4 by omega)]
          rw [if_pos ⟨by omega, by omega⟩, show (max (x4 - 9) 0).toNat = (x4 - 9).toNat by omega, ← hc]
        have kb := Lib.run_convert_string_bytes (P := Tryz.prog) wr 76 210 5 c Tryz.underlying76 Tryz.underlying210 Tryz.underlying5
        have hB : ∀ j, j < c.size → (Lib.bytesWorld wr 5 c).cell? ⟨wr.heap.size, j, none⟩ = some (.int .u8 (c.data.toList.getD j 0).toNat) := fun j hj => Lib.bytesWorld_cell wr 5 c j hj
        obtain ⟨W1, hW1⟩ : ∃ W1, W1 = Lib.bytesWorld wr 5 c := ⟨_, rfl⟩
        have HBw : Aside0 (Below wr.heap.size wr W1) := ⟨by rw [hW1]; exact bytes_below (Below.refl _ _) (Nat.le_refl _) 5 c⟩
        rw [← hW1] at kb hB
        have HB2 := Aside0.mk hB
        have HCL := Aside0.mk hcl
        have HCS := Aside0.mk hcs
        have HX := Aside0.mk (And.intro hx (And.intro hx1 (And.intro hx2 hx3)))
        clear hx hc hB hcl hcs hx1 hx2 hx3 HL hW1
        go_wp2
        go_loop [5, 27] (fun v5 v27 => ∃ (jj : Nat) (a : Int), v5 = .int .u64 a ∧ v27 = .int .i64 jj ∧ jj ≤ c.size ∧ Aside0 (a = (decVal ((chunk bs x4.toNat).take jj) : Int)))
          (fun _ v27 => c.size - (match v27 with | .int _ q => q.toNat | _ => 0))
        case atStart => exact ⟨0, 0, rfl, rfl, Nat.zero_le _, ⟨by simp [decVal]⟩⟩
        case round =>
          obtain ⟨jj, a, rfl, rfl, hj, HA⟩ := hrel
          by_cases hjc : jj < c.size
          · have hc := HB2.out jj hjc
            have hjl : jj < (chunk bs x4.toNat).length := by rw [← HCL.out, ← Lib.size_eq]; exact hjc
            obtain ⟨ch, hch⟩ : ∃ ch, ch = (chunk bs x4.toNat)[jj] := ⟨_, rfl⟩
            have hget : c.data.toList.getD jj 0 = ch := by rw [HCL.out, List.getD_eq_getElem?_getD, List.getElem?_eq_getElem hjl, hch]; rfl
            rw [hget] at hc
            have hdig : 48 ≤ ch.toNat ∧ ch.toNat ≤ 57 := by
              have h := HD.out
              simp only [isDec, List.all_eq_true, Bool.and_eq_true, decide_eq_true_eq] at h
              exact h ch (chunk_mem (hch ▸ List.getElem_mem hjl))
            have htake : (chunk bs x4.toNat).take (jj + 1) = (chunk bs x4.toNat).take jj ++ [ch] := by rw [List.take_succ_eq_append_getElem hjl, hch]
            have hval := decVal_snoc ((chunk bs x4.toNat).take jj) ch
            rw [← htake] at hval
            have hlt : decVal ((chunk bs x4.toNat).take jj) < 1000000000 := by
              refine Nat.lt_of_lt_of_le (decVal_lt (isDec_sub HD.out (fun x hx => chunk_mem (List.mem_of_mem_take hx)))) ?_
              refine Nat.le_trans (Nat.pow_le_pow_right (by decide) (show _ ≤ 9 from ?_)) (by decide)
              rw [List.length_take]
              have := HCS.out
              have := hjl
              rw [← HCL.out, ← Lib.size_eq] at this
              omega
            have HA2 : Aside0 (IntKind.u64.wrap (IntKind.u64.wrap (10 * a) + ((ch.toNat : Int) - 48)) = (decVal ((chunk bs x4.toNat).take (jj + 1)) : Int)) := ⟨by
              rw [hval, IntKind.wrap_u64, IntKind.wrap_u64, HA.out]; omega⟩
            have h48 : (48 : Int) ≤ (ch.toNat : Int) := by omega
            have h57 : (ch.toNat : Int) ≤ 57 := by omega
            have hwu : IntKind.u8.wrap ((ch.toNat : Int) - 48) = (ch.toNat : Int) - 48 := by
              simp [IntKind.wrap, IntKind.bits, IntKind.signed]; omega
            clear hval htake hlt hdig hget hch hjl HA
            go_wp2
            refine ⟨⟨jj + 1, _, rfl, ?_, by omega, HA2⟩, by (try simp only [wrap64]); have := HCS.out; omega⟩
            congr 1
            have := HCS.out
            have := HS.out
            have := HX.out
            unfold wrap64; omega
          · have hjj : jj = c.size := by omega
            subst hjj
            have HV : Aside0 (a = (decVal (chunk bs x4.toNat) : Int)) := ⟨by
              have h := HA.out
              rwa [List.take_of_length_le (by rw [← HCL.out, ← Lib.size_eq]; exact Nat.le_refl _)] at h⟩
            clear HA hjc
            obtain ⟨y1, hy1⟩ : ∃ y_ : List Int, y_ = l ++ [a] := ⟨_, rfl⟩
            have Ny := Aside0.mk hy1
            clear hy1
            have HO' : Aside0 (Kd.R (Kd.int .u64) 145 W1 w.heap.size (fun _ => True) u3 l) := ⟨Kd.R_below HO.out HBw.out⟩
            have HB' : Aside0 (Below w.heap.size w W1) := ⟨HB.out.trans (HBw.out.mono HB.out.size)⟩
            clear HO HB
            go_wp2_with (first | ((with_reducible refine gate_builtin (b := .append) (xs := #[.tmp 38, .tmp 40]) rfl ?_); at_builtin; refine Kd.R_append (Kd.int .u64) (w0 := w) w.heap.size rfl (.tmp 38) (.tmp 40) 169 145 (.int .u64 0) 8 rfl Tryz.underlying169 info145 rfl (by decide) (by omega) u3 l a [.int .u64 a] (fun _ => True) (fun _ => False) rfl rfl ?aP (fun _ hk => hk.elim) ?aF ?aO ?aB ?aS ?aL ?_; (case aP => exact rfl); (case aB => exact (by repeat (first | (with_reducible first | exact HB'.out | apply below_alloc | apply pw_below_drewN | apply below_drew1) | exact HB'.out))); (case aF => exact (fun _ _ => trivial)); (case aO => exact (by (with_reducible repeat (first | apply Kd.R_alloc | apply Kd.R_drewN | apply Kd.R_drew)); exact HO'.out)); (case aS => exact (below_size (by repeat (first | (with_reducible first | exact HB'.out | apply below_alloc | apply pw_below_drewN | apply below_drew1) | exact HB'.out)))); (case aL => have h1 := HX.out.2.2.2; have h2 := HS.out; omega); intro v9 w9 ho hb hg hat; rw [← Ny.out] at ho; have HB9 := Aside0.mk hb; have HO9 := Aside0.mk ho; clear ho hb hg hat))
            go_roundg k1
            case measure => omega
            case rel =>
              have h1 := HS.out
              obtain ⟨h2, h3, h4, h5⟩ := HX.out
              have hw : wrap64 (x4 - 9) = x4 - 9 := by unfold wrap64; omega
              have hv : cutFrom bs x4.toNat = a :: cutFrom bs (x4.toNat - 9) := by
                rw [HV.out]; conv => lhs; rw [cutFrom]
                rw [dif_neg (by omega)]
              refine ⟨y1, x4 - 9, by rw [hw], ⟨by omega, ?_, ?_⟩, ⟨by have := HK.out; omega⟩, HO9, HB9⟩
              · rw [Ny.out, ← h4, hv, show (x4 - 9).toNat = x4.toNat - 9 by omega, List.append_assoc]; rfl
              · rw [Ny.out, List.length_append, List.length_singleton]; omega
      · have hxd : decide (0 < x4) = false := decide_eq_false hx
        obtain ⟨h2, h3, h4⟩ := HL.out
        rw [show x4.toNat = 0 by omega, cutFrom, dif_pos rfl, List.append_nil] at h3
        subst h3
        clear hx h2 h4 HL
        go_wp2_with (go_at_call 139; refine (decimal_pieces_trim.calls ((cutFrom bs bs.length).length + 1) (fun _ => True) _ (cutFrom bs bs.length) _ w _ HB.out HO.out HT.out).mono ?_; rintro e w9 ⟨v9, rfl, ho9, hb9, hk9⟩)
        go_ret
        exact ⟨_, rfl, Kd.R_mono ho9 (fun _ _ => trivial), hb9⟩
  · cases h
end Go.Proofs.YtobdccgpbohpiaaGreatDoor
