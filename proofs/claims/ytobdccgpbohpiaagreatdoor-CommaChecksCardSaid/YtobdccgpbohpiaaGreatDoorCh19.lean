/- Ch: a part of the proof. -/
import Derived.Test.YtobdccgpbohpiaaGreatDoorCh14
import Derived.Test.YtobdccgpbohpiaaGreatDoorCh18
import Derived.WalkLawsBesides
set_option linter.unusedVariables false
set_option linter.unusedSimpArgs false
namespace Go.Proofs.YtobdccgpbohpiaaGreatDoor
open Go.RowKit Go.Shelf Go.Lib Go.Sort F Go.Proofs.YtobdccgpbohpiaaGreatDoorW.PrintWords Go.Proofs.YtobdccgpbohpiaaGreatDoorW.PrintLast Go.Proofs.YtobdccgpbohpiaaGreatDoorW.PrintMore
def cmpSmooth (a b : S83) : Int := a.f0 - b.f0
def fitSmooth (l : List S83) : Bool := decide (l.length < 4611686018427387904) && l.all fun x => decide (0 ≤ x.f0) && decide (x.f0 < 4611686018427387904)
def g_sort_smooth.f (l : List S83) : Option (List S83) := if fitSmooth l = true then some (sortL cmpSmooth z83 l) else none
theorem smooth_order (l : List S83) : ∀ x ∈ l, ∀ y ∈ l, ∀ q ∈ l, ¬ cmpSmooth x x < 0 ∧ (cmpSmooth x y < 0 → cmpSmooth y q < 0 → cmpSmooth x q < 0) ∧ (¬ cmpSmooth x y < 0 → ¬ cmpSmooth y q < 0 → ¬ cmpSmooth x q < 0) := by
  intro x _ y _ q _
  unfold cmpSmooth
  omega
set_option maxHeartbeats 1000000 in
theorem smooth_closure (a b : Int) (u v : Value) (W : World) (ha : 0 ≤ a ∧ a < 4611686018427387904) (hb : 0 ≤ b ∧ b < 4611686018427387904) :
    Calls Tryz.prog 77 #[.agg #[.int .i64 a, u], .agg #[.int .i64 b, v]] W fun e w' => e = .returned (.int .i64 (a - b)) ∧ ∃ q os', w' = grow (W.drewN q) os' := by
  have hw : wrap64 (a - b) = a - b := by unfold wrap64; omega
  have hw2 := Aside0.mk hw
  clear ha hb hw
  go_enter Tryz.func77, Tryz.ntmps77
  go_wp2
  go_ret
  rw [hw2.out]
  exact ⟨rfl, 0, _, by rw [alloc_eq_grow, alloc_eq_grow, grow_grow]; rfl⟩
theorem g_sort_smooth.calls {base : Nat} {ok : Nat → Prop} {W : World} {A : Option Addr} {n c : Nat} {l r : List S83} (h : Kd.N k83 83 W base ok (.slice A n c) l) (hf : g_sort_smooth.f l = some r) :
    Calls Tryz.prog 76 #[.slice A n c, .func (.func 77) #[] #[]] W fun e w' => e = .returned (.tuple #[]) ∧ Kd.N k83 83 w' base ok (.slice A n c) r ∧ Below base W w' ∧ W.grownBy w' (Value.slice A n c).ownBlock := by
  unfold g_sort_smooth.f at hf
  split at hf
  · rename_i hfit
    obtain rfl := Option.some.inj hf
    simp only [fitSmooth, Bool.and_eq_true, decide_eq_true_eq, List.all_eq_true] at hfit
    obtain ⟨hlen, hall⟩ := hfit
    have eg : ∀ args w, (callFunc 77 args).run Tryz.prog w = .ok (.enter 77 args) w := enters_of Tryz.func77 (by kernel_rfl) rfl
    have := N_sortK (d := k83) (P := Tryz.prog) Tryz.sortSmooth Tryz.isAgg83 Tryz.sizeOf83 cmpSmooth z83 77 eg h hlen (smooth_order l) (fun W x y cx cy _ _ hx hy fx fy => by
      obtain ⟨A1, c1, rfl, _, _⟩ := k83_openF fx
      obtain ⟨A2, c2, rfl, _, _⟩ := k83_openF fy
      exact smooth_closure x.f0 y.f0 _ _ W (hall x hx) (hall y hy))
    exact this
  · cases hf
def g_rev_Row.f (l : List (List Int)) (n : Int) : Option (List (List Int)) := if 0 ≤ n ∧ n ≤ l.length then some (l.take n.toNat ++ (l.drop n.toNat).reverse) else none
theorem N_rev {α : Type} {d : Kd α} {e base : Nat} {ok : Nat → Prop} {w : World} {xs : List α} {P : Program} {ρ : Ren} (L : SlLaysE.n35 P ρ) (z1 : d.sz = 1) (z : α)
    {A A' : Option Addr} {n c c' n0 : Nat} (h : Kd.N d e w base ok (.slice A n c) xs) (hn : n0 ≤ xs.length) (hA : A' = if c = n0 then A else A.map (·.add (n0 * 1))) :
    Calls P (ρ.f 35) #[.slice A' (xs.length - n0) c'] w fun e' w' => e' = .returned (.tuple #[]) ∧ Kd.N d e w' base ok (.slice A n c) (xs.take n0 ++ (xs.drop n0).reverse) ∧ Below base w w' ∧ w.grownBy w' (Value.slice A n c).ownBlock := by
  by_cases hp : n0 < xs.length
  · obtain ⟨gb, cap, cur, rows, hv, hb, hgl, hok, hg, hcap, hcm, hcs, hl, hc, hf⟩ := N_open h (by omega)
    injection hv with h1 h2 h3
    subst h1 h2 h3
    rw [if_neg (by omega)] at hA
    have hAd : (⟨gb, 0, none⟩ : Addr).add n0 = ⟨gb, n0, none⟩ := by
      unfold Addr.add
      by_cases h0 : n0 = 0
      · subst h0; rfl
      · simp [h0]
    rw [Option.map_some, Nat.mul_one, hAd] at hA
    subst hA
    letI inh : Inhabited (Fin (xs.length - n0)) := ⟨⟨0, by omega⟩⟩
    let en : Fin (xs.length - n0) → Value := fun i => (rows.getD (n0 + i.val) []).getD 0 (.bool false)
    have hr : ∀ j, j < xs.length → rows[j]? = some (rows.getD j []) := fun j hj => by rw [List.getD_eq_getElem?_getD, List.getElem?_eq_getElem (by omega)]; rfl
    have hone : ∀ j, j < xs.length → rows.getD j [] = [(rows.getD j []).getD 0 (.bool false)] := fun j hj => by
      have := (hc _ _ (hr j hj)).1
      rw [z1] at this
      match hq : rows.getD j [], this with
      | [x], _ => rfl
    have hcell : ∀ j, j < xs.length → cur[j]? = some ((rows.getD j []).getD 0 (.bool false)) := fun j hj => by
      have := (hc _ _ (hr j hj)).2.2 0 ((rows.getD j []).getD 0 (.bool false)) (by rw [hone j hj]; rfl)
      rwa [z1, Nat.mul_one, Nat.add_zero] at this
    have h1 : OneCell en := fun i => (hc _ _ (hr (n0 + i.val) (by have := i.isLt; omega))).2.1 _ (by rw [hone _ (by have := i.isLt; omega)]; exact List.mem_singleton.2 rfl)
    have hH : Holds en w gb n0 (List.finRange (xs.length - n0)).toArray := by
      intro j hj
      rw [List.size_toArray, List.length_finRange] at hj
      have he : (List.finRange (xs.length - n0)).toArray[j]! = ⟨j, hj⟩ := by
        rw [getElem!_pos _ _ (by simpa using hj)]; simp
      rw [he]
      refine ⟨?_, ?_⟩
      · simp only [World.cell?, hg]
        rw [hcell (n0 + j) (by omega), if_neg (by simp)]
      · simp [World.frozen?, hg]
    have hml : maxLen = 9223372036854775807 := by unfold maxLen; rfl
    have key := AnyE.slices_Reverse L en h1 gb n0 c' (List.finRange (xs.length - n0)) w hH (by rw [List.length_finRange]; omega)
    rw [List.length_finRange] at key
    refine key.mono ?_
    rintro e' w' ⟨rfl, m, hw⟩
    refine ⟨rfl, ?_⟩
    let ix : List Nat := List.range n0 ++ ((List.finRange (xs.length - n0)).map fun i => n0 + i.val).reverse
    have hil : ix.length = xs.length := by simp [ix]; omega
    have hix : ∀ i ∈ ix, i < xs.length := by
      intro i hi
      rcases List.mem_append.1 hi with hi | hi
      · have := List.mem_range.1 hi; omega
      · obtain ⟨j, _, rfl⟩ := List.mem_map.1 (List.mem_reverse.1 hi)
        have := j.isLt; omega
    have := N_put (z := z) w' #[] m hb hgl hok hg hcap hcm hcs hl hc hf ix hix hil (ix.map fun i => (rows.getD i []).getD 0 (.bool false)).toArray (by rw [List.size_toArray, List.length_map, hil, z1, Nat.mul_one]) (by
        intro j i hj hi
        obtain rfl : i = 0 := by omega
        rw [z1, Nat.mul_one, Nat.add_zero, List.getElem?_toArray, List.getElem?_map, List.getD_eq_getElem?_getD (l := ix), List.getElem?_eq_getElem (by omega)]; rfl) (by
        have hgr : ∀ W : World, grow W #[] = W := fun W => grow_empty W
        rw [hgr, hw]
        refine mapBlock_congr _ _ _ _ (fun c0 e0 fr0 h0 => ?_)
        have hcc : some (Obj.cells c0 e0 fr0) = some (.cells cur e (0, 0)) := h0.symm.trans hg
        injection hcc with hcc
        injection hcc with hcc _ _
        subst hcc
        apply Array.ext_getElem?
        intro k
        simp only [putCells, Array.getElem?_mapIdx, List.size_toArray, List.length_map, hil, List.length_reverse, List.length_finRange]
        cases hk : c0[k]? with
        | none => rfl
        | some y =>
          simp only [Option.map_some]
          by_cases h3 : k < n0
          · rw [if_neg (by omega), if_pos ⟨by omega, by omega⟩]
            rw [getElem!_pos _ _ (by simp [hil]; omega)]
            have := hcell k (by omega)
            rw [hk] at this
            simp [ix, List.getElem_append_left, h3]
            simpa using this
          · by_cases h4 : k < xs.length
            · rw [if_pos ⟨by omega, by omega⟩, if_pos ⟨by omega, by omega⟩]
              rw [getElem!_pos _ _ (by simp; omega), getElem!_pos _ _ (by simp [hil]; omega)]
              simp only [ix, List.map_append, List.getElem_toArray]
              rw [List.getElem_append_right (by simp; omega)]
              simp [en]
            · rw [if_neg (by omega), if_neg (by omega)])
    have hys : (ix.map fun i => xs.getD i z) = xs.take n0 ++ (xs.drop n0).reverse := by
      simp only [ix, List.map_append, List.map_reverse, List.map_map]
      congr 1
      · apply List.ext_getElem
        · simp; omega
        · intro i h1 h2
          rw [List.length_map, List.length_range] at h1
          rw [List.getElem_map, List.getElem_range, List.getD_eq_getElem?_getD, List.getElem?_eq_getElem (by omega), List.getElem_take]; rfl
      · congr 1
        apply List.ext_getElem
        · simp
        · intro i h1 h2
          rw [List.length_map, List.length_finRange] at h1
          rw [List.getElem_map, List.getElem_drop]
          simp only [Function.comp, List.getElem_finRange, Fin.val_cast]
          rw [List.getD_eq_getElem?_getD, List.getElem?_eq_getElem (by omega)]; rfl
    rw [← hys]
    exact this
  · have h0 : xs.length - n0 = 0 := by omega
    rw [h0]
    refine (AnyE.slices_Reverse_empty L A' c' w).mono ?_
    rintro e' w' ⟨rfl, rfl⟩
    refine ⟨rfl, ?_, Below.refl _ _, ⟨rfl, rfl, rfl, Nat.le_refl _, fun _ _ _ => rfl⟩⟩
    rw [List.drop_eq_nil_of_le (by omega), List.take_of_length_le (by omega), List.reverse_nil, List.append_nil]
    exact h
theorem g_rev_Row.calls {base : Nat} {ok : Nat → Prop} {W : World} {A A' : Option Addr} {n m c c' : Nat} {n0 : Int} {l r : List (List Int)} (h : Kd.N (Kd.slice 3 (Kd.int .i64)) 30 W base ok (.slice A n c) l) (hA : A' = if c = n0.toNat then A else A.map (·.add (n0.toNat * 1))) (hm : m = l.length - n0.toNat) (hf : g_rev_Row.f l n0 = some r) :
    Calls Tryz.prog 44 #[.slice A' m c'] W fun e w' => e = .returned (.tuple #[]) ∧ Kd.N (Kd.slice 3 (Kd.int .i64)) 30 w' base ok (.slice A n c) r ∧ Below base W w' ∧ W.grownBy w' (Value.slice A n c).ownBlock := by
  unfold g_rev_Row.f at hf
  split at hf
  · rename_i hh
    obtain rfl := Option.some.inj hf
    rw [hm]
    exact N_rev (P := Tryz.prog) Tryz.revRow rfl [] h (by omega) hA
  · cases hf
end Go.Proofs.YtobdccgpbohpiaaGreatDoor
