/- Ch: a part of the proof. -/
import Derived.Test.YtobdccgpbohpiaaGreatDoorCh10
import Derived.Test.YtobdccgpbohpiaaGreatDoorCh29
set_option linter.unusedVariables false
set_option linter.unusedSimpArgs false
namespace Go.Proofs.YtobdccgpbohpiaaGreatDoor
open Go.RowKit Go.Shelf Go.Lib Go.Sort F Go.Proofs.YtobdccgpbohpiaaGreatDoorW.PrintWords Go.Proofs.YtobdccgpbohpiaaGreatDoorW.PrintLast Go.Proofs.YtobdccgpbohpiaaGreatDoorW.PrintMore
def keepJ (pd : List Int → Bool) (l : List (List Int)) (m : Nat) : List Nat := (List.range m).filter fun t => !pd (l.getD t [])
theorem keepJ_succ (pd : List Int → Bool) (l : List (List Int)) (m : Nat) : keepJ pd l (m + 1) = keepJ pd l m ++ if pd (l.getD m []) = true then [] else [m] := by
  unfold keepJ
  rw [List.range_succ, List.filter_append]
  congr 1
  by_cases h : pd (l.getD m []) = true
  · rw [if_pos h, List.filter_cons_of_neg (by rw [h]; decide)]; rfl
  · rw [if_neg h, List.filter_cons_of_pos (by simpa using h)]; rfl
theorem range_getD (l : List (List Int)) : (List.range l.length).map (fun t => l.getD t []) = l := by
  apply List.ext_getElem
  · simp
  · intro i h1 h2
    rw [List.getElem_map, List.getElem_range, List.getD_eq_getElem?_getD, List.getElem?_eq_getElem h2]; rfl
theorem keepJ_filter (pd : List Int → Bool) (l : List (List Int)) : (keepJ pd l l.length).map (fun t => l.getD t []) = l.filter fun x => !pd x := by
  have h := List.filter_map (f := fun t => l.getD t []) (p := fun x => !pd x) (l := List.range l.length)
  rw [range_getD] at h
  rw [h]; rfl
theorem idxQ_at {pd : List Int → Bool} {l : List (List Int)} {m : Nat} (hm : m < l.length) (hp : pd (l.getD m []) = true) (hq : ∀ j, j < m → pd (l.getD j []) = false) : idxP pd l = m := by
  have e : l.findIdx? pd = some m := by
    rw [List.findIdx?_eq_some_iff_getElem]
    refine ⟨hm, ?_, fun j hj => ?_⟩
    · rw [List.getD_eq_getElem?_getD, List.getElem?_eq_getElem hm] at hp; exact hp
    · have := hq j hj
      rw [List.getD_eq_getElem?_getD, List.getElem?_eq_getElem (by omega)] at this
      rw [show pd l[j] = false from this]; decide
  unfold idxP
  rw [e]
theorem idxQ_none {pd : List Int → Bool} {l : List (List Int)} (hq : ∀ j, j < l.length → pd (l.getD j []) = false) : idxP pd l = -1 := by
  have e : l.findIdx? pd = none := by
    rw [List.findIdx?_eq_none_iff]
    intro x hx
    obtain ⟨j, hj, rfl⟩ := List.getElem_of_mem hx
    have := hq j hj
    rw [List.getD_eq_getElem?_getD, List.getElem?_eq_getElem hj] at this
    exact this
  unfold idxP
  rw [e]
set_option maxRecDepth 100000 in
set_option maxHeartbeats 4000000 in
theorem index_rows (fn : Nat) (lb : Array Value) (pd : List Int → Bool) (g c : Nat) (l : List (List Int)) (vs : Nat → Value) (cur : Array Value) (W : World) (eg : ∀ args w, (callFunc fn args).run Tryz.prog w = .ok (.enter fn args) w) (hlen : l.length ≤ 100000)
    (hg : W.heap[g]? = some (.cells cur 30 (0, 0))) (hcur : ∀ j, j < l.length → cur[j]? = some (vs j)) (hV : ∀ j, j < l.length → ∃ A n c, vs j = .slice A n c) (HE : ∀ (i : Nat) (W' : World), i < l.length → RowKit.Below W.heap.size W W' → Calls Tryz.prog fn (#[vs i] ++ lb) W' fun e w' => e = .returned (.bool (pd (l.getD i []))) ∧ RowKit.Below W'.heap.size W' w') :
    Calls Tryz.prog 93 #[.slice (some ⟨g, 0, none⟩) l.length c, .func (.func fn) #[] lb] W fun e w' => e = .returned (.int .i64 (idxP pd l)) ∧ RowKit.Below W.heap.size W w' := by
  have HG := Aside0.mk hg
  have HCur := Aside0.mk hcur
  have HV := Aside0.mk hV
  have HE := Aside0.mk HE
  have HL := Aside0.mk hlen
  clear hg hcur hV hlen
  go_enter Tryz.func93, Tryz.ntmps93
  go_wp2
  go_loopg [5, 8] l.length (fun gg s5 s8 wr => ∃ (m : Nat), s8 = .int .i64 m ∧ m ≤ l.length ∧ l.length - m ≤ gg ∧ Aside0 (∀ j, j < m → pd (l.getD j []) = false) ∧ Aside0 (RowKit.Below W.heap.size W wr))
  case atStart => exact ⟨0, rfl, by omega, by omega, ⟨fun j h => by omega⟩, ⟨RowKit.Below.refl _ _⟩⟩
  case round =>
    obtain ⟨m, rfl, hm, hgg, HQ, HB⟩ := hrel
    by_cases hlt : m < l.length
    · have hltd : decide ((m : Int) < (l.length : Int)) = true := decide_eq_true (by omega)
      have q0 : (m : Int) < (l.length : Int) := by omega
      have hb0 := (HB.out.block g (Array.getElem?_eq_some_iff.1 HG.out).1).trans HG.out
      have hc : wr.cell? ⟨g, m, none⟩ = some (vs m) := by simp [World.cell?, hb0, HCur.out m hlt]
      obtain ⟨A1, n1, c1, hv⟩ := HV.out m hlt
      have hp := HE.out m wr hlt HB.out
      rw [hv] at hc hp
      clear hb0 hv
      cases hb : pd (l.getD m []) with
      | true =>
        rw [hb] at hp
        have HP := Aside0.mk hb
        clear hb
        go_wp2_with (go_at_fn fn; refine hp.mono ?_; rintro e w' ⟨rfl, hd⟩; have HD := Aside0.mk hd; clear hd)
        go_ret
        exact ⟨by rw [idxQ_at hlt HP.out HQ.out]; rfl, below_step HB.out HD.out⟩
      | false =>
        rw [hb] at hp
        have HP := Aside0.mk hb
        clear hb
        go_wp2_with (go_at_fn fn; refine hp.mono ?_; rintro e w' ⟨rfl, hd⟩; have HD := Aside0.mk hd; clear hd)
        go_roundg (l.length - (m + 1))
        case measure => omega
        case rel =>
          refine ⟨m + 1, congrArg _ (by rw [wrap64_id (by have := HL.out; omega)]; rfl), by omega, Nat.le_refl _, ⟨fun j hj => ?_⟩, ⟨below_step HB.out HD.out⟩⟩
          by_cases hjm : j < m
          · exact HQ.out j hjm
          · have : j = m := by omega
            subst this
            exact HP.out
    · have hltd : decide ((m : Int) < (l.length : Int)) = false := decide_eq_false (by omega)
      go_wp2
      go_ret
      exact ⟨by rw [idxQ_none (fun j hj => HQ.out j (by omega))]; rfl, HB.out⟩
set_option maxRecDepth 100000 in
set_option maxHeartbeats 4000000 in
theorem delete_rows (fn : Nat) (lb : Array Value) (pd : List Int → Bool) {base : Nat} {ok : Nat → Prop} {W : World} {A : Option Addr} {n c : Nat} {l : List (List Int)} (eg : ∀ args w, (callFunc fn args).run Tryz.prog w = .ok (.enter fn args) w) (h : Kd.N (Kd.slice 3 (Kd.int .i64)) 30 W base ok (.slice A n c) l) (hlen : l.length ≤ 100000) (hbW : base ≤ W.heap.size)
    (hp : ∀ x ∈ l, ∀ (A1 : Option Addr) (c1 : Nat) (W' : World), RowKit.Below base W W' → Kd.C (Kd.int .i64) W' A1 x.length x → x.length ≤ c1 → Calls Tryz.prog fn (#[.slice A1 x.length c1] ++ lb) W' fun e w' => e = .returned (.bool (pd x)) ∧ RowKit.Below W'.heap.size W' w') :
    Calls Tryz.prog 60 #[.slice A n c, .func (.func fn) #[] lb] W fun e w' => ∃ v, e = .returned v ∧ Kd.N (Kd.slice 3 (Kd.int .i64)) 30 w' base ok v (l.filter fun x => !pd x) ∧ RowKit.Below base W w' := by
  have hnl := (Kd.N_reads' h).1
  subst hnl
  by_cases h0 : l = []
  · subst h0
    have HN := Aside0.mk h
    clear h hp
    have h93 : Calls Tryz.prog 93 #[.slice A ([] : List (List Int)).length c, .func (.func fn) #[] lb] W fun e w' => e = .returned (.int .i64 (-1)) ∧ w' = W := by
      go_enter Tryz.func93, Tryz.ntmps93
      go_wp2
      go_loopg [5, 8] 0 (fun gg s5 s8 wr => s8 = .int .i64 0 ∧ wr = W)
      case atStart => exact ⟨rfl, rfl⟩
      case round =>
        obtain ⟨rfl, rfl⟩ := hrel
        go_wp2
        go_ret
        exact ⟨rfl, rfl⟩
    go_enter Tryz.func60, Tryz.ntmps60
    go_wp2_with (go_at_call 93; refine h93.mono ?_; rintro e w' ⟨rfl, rfl⟩)
    go_ret
    exact ⟨_, rfl, HN.out, RowKit.Below.refl _ _⟩
  · have hpos : 0 < l.length := List.length_pos_iff.2 h0
    obtain ⟨g, cap, cur, vs, hv, hb, hgl, hok, hg, hcap, hcm, hcs, hall2⟩ := N_cells h hpos
    injection hv with hv1 _ hv3
    subst hv1 hv3
    have hmem : ∀ i, i < l.length → l.getD i [] ∈ l := fun i hi => by
      rw [List.getD_eq_getElem?_getD, List.getElem?_eq_getElem hi]; exact List.getElem_mem hi
    have HE : Aside0 (∀ (i : Nat) (W' : World), i < l.length → RowKit.Below base W W' → (∀ k, (ok k ∧ k ≠ g) → k < W.heap.size → W'.heap[k]? = W.heap[k]?) → Calls Tryz.prog fn (#[vs i] ++ lb) W' fun e w' => e = .returned (.bool (pd (l.getD i []))) ∧ RowKit.Below W'.heap.size W' w') := ⟨fun i W' hi hB hm => by
      obtain ⟨A1, c1, e1, l1, g1⟩ := Kd.FK_slice_open (Kd.FK_step (hall2 i hi).2.2 hm)
      injection e1 with e1 _
      rw [e1]
      exact hp _ (hmem i hi) A1 c1 W' hB (Kd.F_now g1) l1⟩
    have HCur : Aside0 (∀ j, j < l.length → cur[j]? = some (vs j)) := ⟨fun j hj => (hall2 j hj).1⟩
    have HV : Aside0 (∀ j, j < l.length → ∃ A n c, vs j = .slice A n c) := ⟨fun j hj => by
      obtain ⟨A, c, h1, _⟩ := Kd.FK_slice_open (hall2 j hj).2.2
      injection h1 with h1 _
      exact ⟨A, _, c, h1⟩⟩
    have HFK : Aside0 (∀ j, j < l.length → Kd.FK (Kd.slice 3 (Kd.int .i64)) W (fun k => ok k ∧ k ≠ g) (l.getD j []) [vs j]) := ⟨fun j hj => (hall2 j hj).2.2⟩
    have HG := Aside0.mk hg
    have HN := Aside0.mk h
    have HL := Aside0.mk (And.intro hlen (And.intro hcap (And.intro hcm hcs)))
    have HIx := Aside0.mk (index_rows fn lb pd g c l vs cur W eg hlen hg HCur.out HV.out (fun i W' hi hB => HE.out i W' hi (hB.mono hbW) (fun k _ hk => hB.block k hk)))
    have HbW := Aside0.mk hbW
    clear h hlen hall2 hcap hcm hcs hg hp hbW hmem
    by_cases hnone : ∀ j, j < l.length → pd (l.getD j []) = false
    · have e1 : idxP pd l = -1 := idxQ_none hnone
      have hfil : (l.filter fun x => !pd x) = l := List.filter_eq_self.2 (fun x hx => by
        obtain ⟨j, hj, rfl⟩ := List.getElem_of_mem hx
        have := hnone j hj
        rw [List.getD_eq_getElem?_getD, List.getElem?_eq_getElem hj] at this
        rw [show pd l[j] = false from this]; rfl)
      rw [e1] at HIx
      rw [hfil]
      clear hnone e1 hfil
      go_enter Tryz.func60, Tryz.ntmps60
      go_wp2_with (go_at_call 93; refine HIx.out.mono ?_; rintro e w1 ⟨rfl, hd⟩; have HD := Aside0.mk hd; clear hd)
      go_ret
      exact ⟨_, rfl, Kd.N_below HN.out HD.out, HD.out.mono HbW.out⟩
    · obtain ⟨k0, hk0, hpk, hbef⟩ : ∃ k0, k0 < l.length ∧ pd (l.getD k0 []) = true ∧ ∀ j, j < k0 → pd (l.getD j []) = false := by
        have hex : ∃ j, j < l.length ∧ pd (l.getD j []) = true := by
          refine Classical.byContradiction fun hne => hnone fun j hj => ?_
          cases hb2 : pd (l.getD j []) with
          | false => rfl
          | true => exact absurd ⟨j, hj, hb2⟩ hne
        have key : ∀ m, (∃ j, j < m ∧ j < l.length ∧ pd (l.getD j []) = true) → ∃ k0, k0 < l.length ∧ pd (l.getD k0 []) = true ∧ ∀ j, j < k0 → pd (l.getD j []) = false := by
          intro m
          induction m with
          | zero => rintro ⟨j, h, _⟩; omega
          | succ m ih =>
            rintro ⟨j, hj, hjl, hjp⟩
            by_cases he : ∃ j, j < m ∧ j < l.length ∧ pd (l.getD j []) = true
            · exact ih he
            · refine ⟨j, hjl, hjp, fun t ht => ?_⟩
              cases hb2 : pd (l.getD t []) with
              | false => rfl
              | true => exact absurd ⟨t, by omega, by omega, hb2⟩ he
        obtain ⟨j, hj, hjp⟩ := hex
        exact key (j + 1) ⟨j, by omega, hj, hjp⟩
      have e1 : idxP pd l = (k0 : Int) := idxQ_at hk0 hpk hbef
      rw [e1] at HIx
      have hK1 : keepJ pd l (k0 + 1) = List.range k0 := by
        rw [keepJ_succ, if_pos hpk, List.append_nil]
        exact List.filter_eq_self.2 (fun t ht => by rw [hbef t (List.mem_range.1 ht)]; rfl)
      have HK1 := Aside0.mk hK1
      have hne1 : ((k0 : Int) == -1) = false := beq_eq_false_iff_ne.2 (by omega)
      have hne2 : ¬ (k0 : Int) = -1 := by omega
      have hl5 := HL.out.1
      clear hnone e1 hK1 hpk hbef
      go_enter Tryz.func60, Tryz.ntmps60
      go_wp2_with (go_at_call 93; refine HIx.out.mono ?_; rintro e w1 ⟨rfl, hd⟩; have HD := Aside0.mk hd; clear hd)
      go_loopg [5, 6, 7] l.length (fun gg s5 s6 s7 wr => ∃ (i j : Nat) (cur2 : Array Value) (ix : List Nat), s5 = .int .i64 i ∧ s6 = .int .i64 j ∧ 1 ≤ j ∧ j ≤ l.length ∧ l.length - j ≤ gg ∧ Aside0 (RowKit.Below base W wr ∧ wr.heap[g]? = some (.cells cur2 30 (0, 0)) ∧ ∀ k, k ≠ g → k < W.heap.size → wr.heap[k]? = W.heap[k]?) ∧
        Aside0 (ix.length = l.length ∧ cur2.size = c ∧ (∀ t, t < l.length → cur2[t]? = some (vs (ix.getD t 0))) ∧ i = (keepJ pd l j).length ∧ i < j ∧ ix.take i = keepJ pd l j ∧ (∀ t, j ≤ t → t < l.length → ix.getD t 0 = t)))
      case atStart =>
        have z2 := HL.out
        refine ⟨k0, k0 + 1, cur, List.range l.length, rfl, congrArg _ (by first | rfl | (rw [wrap64_id (by omega)]; rfl)), by omega, by omega, by omega, ⟨HD.out.mono HbW.out, (HD.out.block g hgl).trans HG.out, fun k _ hk => HD.out.block k hk⟩, ⟨List.length_range, z2.2.2.2, fun t ht => ?_, ?_, by omega, ?_, fun t ht htl => ?_⟩⟩
        · rw [List.getD_eq_getElem?_getD, List.getElem?_range ht]
          exact HCur.out t ht
        · rw [HK1.out, List.length_range]
        · rw [HK1.out, List.take_range]; congr 1; omega
        · rw [List.getD_eq_getElem?_getD, List.getElem?_range htl]; rfl
      case round =>
        obtain ⟨i, j, cur2, ix, rfl, rfl, hj1, hjl, hgg2, HW, HI⟩ := hrel
        by_cases hlt2 : j < l.length
        · have hltd2 : decide ((j : Int) < (l.length : Int)) = true := decide_eq_true (by omega)
          have q0 : (j : Int) < (l.length : Int) := by omega
          obtain ⟨i1, i2, i3, i4, i5, i6, i7⟩ := HI.out
          obtain ⟨hB3, hh3, ho3⟩ := HW.out
          have k1_ := i3 j hlt2
          rw [i7 j (Nat.le_refl _) hlt2] at k1_
          have hcj : wr.cell? ⟨g, j, none⟩ = some (vs j) := by simp [World.cell?, hh3, k1_]
          have hcall := HE.out j wr hlt2 hB3 (fun k hk hl => ho3 k hk.2 hl)
          obtain ⟨A2, n2, c2, hv2⟩ := HV.out j hlt2
          rw [hv2] at hcj hcall
          have HV2 := Aside0.mk hv2
          have HHi := Aside0.mk (And.intro i5 hlt2)
          have hiz : (i : Int) < (l.length : Int) := by omega
          have hil : i < l.length := by omega
          have HC3 := Aside0.mk (i3 i hil)
          clear k1_ hv2 i1 i2 i3 i4 i5 i6 i7 hB3 hh3 ho3
          cases hpj : pd (l.getD j []) with
          | true =>
            rw [hpj] at hcall
            have HP := Aside0.mk hpj
            clear hpj
            go_wp2_with (go_at_fn fn; refine hcall.mono ?_; rintro e w2 ⟨rfl, hd⟩; have HD2 := Aside0.mk hd; clear hd)
            go_roundg (l.length - (j + 1))
            case measure => omega
            case rel =>
              obtain ⟨i1, i2, i3, i4, i5, i6, i7⟩ := HI.out
              obtain ⟨hB3, hh3, ho3⟩ := HW.out
              have hs3 := hB3.size
              refine ⟨i, j + 1, cur2, ix, rfl, congrArg _ (by first | rfl | (rw [wrap64_id (by omega)]; rfl)), by omega, by omega, Nat.le_refl _, ⟨hB3.trans (HD2.out.mono (Nat.le_trans HbW.out hs3)), (HD2.out.block g (by omega)).trans hh3, fun k hk hl => (HD2.out.block k (by omega)).trans (ho3 k hk hl)⟩, ⟨i1, i2, i3, ?_, by omega, ?_, fun t ht htl => i7 t (by omega) htl⟩⟩
              · rw [keepJ_succ, if_pos HP.out, List.append_nil]; exact i4
              · rw [keepJ_succ, if_pos HP.out, List.append_nil]; exact i6
          | false =>
            rw [hpj] at hcall
            have HP := Aside0.mk hpj
            clear hpj
            go_wp2_with (go_at_fn fn; refine hcall.mono ?_; rintro e w2 ⟨rfl, hd⟩; have HD2 := Aside0.mk hd; have hg2 : w2.heap[g]? = some (.cells cur2 30 (0, 0)) := (hd.block g (by have := HW.out.1.size; omega)).trans HW.out.2.1; have hfi : w2.frozen? ⟨g, i, none⟩ = false := (by simp [World.frozen?, hg2]); have hci : w2.cell? ⟨g, i, none⟩ = some (vs (ix.getD i 0)) := (by simp [World.cell?, hg2, HC3.out]); have HG2 := Aside0.mk hg2; clear hd hg2)
            go_roundg (l.length - (j + 1))
            case measure => omega
            case rel =>
              obtain ⟨i1, i2, i3, i4, i5, i6, i7⟩ := HI.out
              obtain ⟨hB3, hh3, ho3⟩ := HW.out
              have hs3 := hB3.size
              have hlc := HL.out.2.1
              have hst := setCell_at (W := w2) HG2.out i (vs j)
              rw [← HV2.out]
              refine ⟨i + 1, j + 1, cur2.setIfInBounds i (vs j), ix.set i j, congrArg _ (by first | rfl | (rw [wrap64_id (by omega)]; rfl)), congrArg _ (by first | rfl | (rw [wrap64_id (by omega)]; rfl)), by omega, by omega, Nat.le_refl _, ⟨(hB3.trans (HD2.out.mono (Nat.le_trans HbW.out hs3))).setCell (by exact hb) _, hst.1, fun k hk hl => (hst.2 k hk).trans ((HD2.out.block k (by omega)).trans (ho3 k hk hl))⟩, ⟨by rw [List.length_set]; exact i1, by rw [Array.size_setIfInBounds]; exact i2, fun t ht => ?_, ?_, by omega, ?_, fun t ht htl => ?_⟩⟩
              · by_cases hti : t = i
                · subst hti
                  rw [Array.getElem?_setIfInBounds, if_pos rfl, if_pos (by omega), List.getD_eq_getElem?_getD, List.getElem?_set, if_pos rfl, if_pos (by omega)]; rfl
                · rw [Array.getElem?_setIfInBounds, if_neg (Ne.symm hti), List.getD_eq_getElem?_getD, List.getElem?_set, if_neg (Ne.symm hti), ← List.getD_eq_getElem?_getD]
                  exact i3 t ht
              · rw [keepJ_succ, if_neg (by rw [HP.out]; decide), List.length_append, List.length_singleton, ← i4]
              · rw [keepJ_succ, if_neg (by rw [HP.out]; decide), ← i6, List.take_succ_eq_append_getElem (by rw [List.length_set]; omega), List.take_set_of_le (Nat.le_refl _), List.getElem_set_self]
              · rw [List.getD_eq_getElem?_getD, List.getElem?_set, if_neg (by omega), ← List.getD_eq_getElem?_getD]
                exact i7 t (by omega) htl
        · have hend : j = l.length := by omega
          have hltd2 : decide ((j : Int) < (l.length : Int)) = false := decide_eq_false (by omega)
          obtain ⟨i1, i2, i3, i4, i5, i6, i7⟩ := HI.out
          obtain ⟨hB3, hh3, ho3⟩ := HW.out
          have hil : i ≤ l.length := by omega
          have hic : i ≤ c := by have := HL.out.2.1; omega
          have hcl : ∀ ty, (Builtin.clear_ #[36] ty #[.slice (some ⟨g, i, none⟩) (l.length - i) (c - i)]).run Tryz.prog wr = .ok (.tuple #[]) (wr.setCells g i (List.replicate (l.length - i) (.slice none 0 0))) :=
            fun ty => Lib.run_clear_slice wr 36 30 ty _ Tryz.underlying36 (by intro w; rfl) rfl rfl g i _ _ (by omega) (fun t ht => by simp [World.cell?, hh3, i3 (i + t) (by omega)]) (fun t ht => by simp [World.frozen?, hh3])
          have hst := setCells_at (List.replicate (l.length - i) (.slice none 0 0)) i wr cur2 hh3
          have hb4 := below_setCells1 (B := base) hb (List.replicate (l.length - i) (.slice none 0 0)) i wr hB3
          generalize wr.setCells g i (List.replicate (l.length - i) (.slice none 0 0)) = w4 at hcl hst hb4
          have HS := Aside0.mk (And.intro hst hb4)
          have hiz : ((i : Int) ≤ (l.length : Int)) := by omega
          have hic2 : ((i : Int) ≤ (c : Int)) := by omega
          have hci0 : ¬ (c = i) := by have := HL.out.2.1; omega
          clear hst hb4 hh3 ho3 i1 i2 i3 i4 i5 i6 i7 hB3
          go_wp2
          go_ret
          obtain ⟨⟨⟨cur4, s1, s2, s3⟩, s4⟩, s5⟩ := HS.out
          obtain ⟨i1, i2, i3, i4, i5, i6, i7⟩ := HI.out
          rw [hend] at i4 i6
          rw [← keepJ_filter]
          have hcl4 : ((keepJ pd l l.length).map fun t => l.getD t []).length = i := by rw [List.length_map, i4]
          have hat : ∀ t' t, (keepJ pd l l.length)[t']? = some t → t' < i ∧ t < l.length ∧ cur4[t']? = some (vs t) := fun t' t ht => by
            have h1 : t' < i := by rw [i4]; exact (List.getElem?_eq_some_iff.1 ht).1
            have h2 : t < l.length := by
              have := List.mem_of_getElem? ht
              unfold keepJ at this
              exact List.mem_range.1 (List.mem_filter.1 this).1
            refine ⟨h1, h2, ?_⟩
            rw [s3 t' h1, i3 t' (by omega)]
            rw [← i6, List.getElem?_take, if_pos h1] at ht
            rw [List.getD_eq_getElem?_getD, ht]; rfl
          have key := N_close (w := W) (w' := w4) (d := Kd.slice 3 (Kd.int .i64)) (e := 30) (base := base) (ok := ok) (xs := (keepJ pd l l.length).map fun t => l.getD t []) (cap := c) (cur' := cur4) (rows := (keepJ pd l l.length).map fun t => [vs t]) hb hgl hok s1 (by rw [hcl4]; exact hic) HL.out.2.2.1 (by rw [s2, i2]; exact (Nat.mul_one c).symm) (by rw [hcl4, List.length_map, i4]) (fun j' cs hj' => by
            rw [List.getElem?_map, Option.map_eq_some_iff] at hj'
            obtain ⟨t, ht, rfl⟩ := hj'
            obtain ⟨h1, h2, h3⟩ := hat j' t ht
            refine ⟨rfl, fun u hu => ?_, fun i' u hu => ?_⟩
            · rw [List.mem_singleton.1 hu]
              obtain ⟨A, n, c', hv⟩ := HV.out t h2
              rw [hv]; rfl
            · cases i' with
              | zero =>
                obtain rfl := Option.some.inj hu
                show cur4[j' * 1 + 0]? = _
                rw [Nat.mul_one, Nat.add_zero]; exact h3
              | succ i' => simp at hu) (fun j' x cs hx hcs => by
            rw [List.getElem?_map, Option.map_eq_some_iff] at hx hcs
            obtain ⟨t, ht, rfl⟩ := hx
            obtain ⟨t', ht', rfl⟩ := hcs
            rw [ht] at ht'
            obtain rfl := Option.some.inj ht'
            exact HFK.out t (hat j' t ht).2.1) (fun k hk hne => by rw [s4 k hne]; exact HW.out.2.2 k hne hk)
          rw [hcl4] at key
          exact ⟨_, rfl, key, s5⟩
end Go.Proofs.YtobdccgpbohpiaaGreatDoor
