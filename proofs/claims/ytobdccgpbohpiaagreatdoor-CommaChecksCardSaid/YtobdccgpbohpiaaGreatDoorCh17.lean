/- Ch: a part of the proof. -/
import Derived.Shelf.SlSortCmp.NoneTotal
import Derived.Sort.AssemblyPlain
import Derived.Test.YtobdccgpbohpiaaGreatDoorCh1
set_option linter.unusedVariables false
set_option linter.unusedSimpArgs false
namespace Go.Proofs.YtobdccgpbohpiaaGreatDoor
open Go.RowKit Go.Shelf Go.Lib Go.Sort Go.Proofs.YtobdccgpbohpiaaGreatDoorW.PrintWords Go.Proofs.YtobdccgpbohpiaaGreatDoorW.PrintLast Go.Proofs.YtobdccgpbohpiaaGreatDoorW.PrintMore
section
variable {α : Type} {d : Kd α} {e base : Nat} {ok : Nat → Prop} {w w' : World} {v : Value} {xs : List α}
theorem N_open (h : Kd.N d e w base ok v xs) (hp : 0 < xs.length) : ∃ (g cap : Nat) (cur : Array Value) (rows : List (List Value)), v = .slice (some ⟨g, 0, none⟩) xs.length cap ∧ base ≤ g ∧ g < w.heap.size ∧ ok g ∧ w.heap[g]? = some (.cells cur e (0, 0)) ∧ xs.length ≤ cap ∧ cap ≤ maxLen ∧ cur.size = cap * d.sz ∧ rows.length = xs.length ∧
    (∀ (j : Nat) (c : List Value), rows[j]? = some c → c.length = d.sz ∧ (∀ u ∈ c, u.oneCell' = true) ∧ ∀ i u, c[i]? = some u → cur[j * d.sz + i]? = some u) ∧
    (∀ (j : Nat) (x : α) (c : List Value), xs[j]? = some x → rows[j]? = some c → Kd.FK d w (fun k => ok k ∧ k ≠ g) x c) := by
  obtain ⟨h0, rows, hl, ⟨_, inner, ho, hr⟩, hf⟩ := h
  obtain ⟨hil, ho⟩ := ho
  rcases ho with ⟨rfl, hn⟩ | ⟨g, cap, cur, rfl, hb, hg, hnc, hcm, hcs, hti⟩
  · omega
  · rw [hl] at hnc hti ⊢
    refine ⟨g, cap, cur, rows, rfl, hb, (Array.getElem?_eq_some_iff.1 hg).1, h0 g rfl, hg, hnc, hcm, hcs, hl, fun j c hc => ?_, fun j x c hx hc => ?_⟩
    · obtain ⟨he, hlen, hone⟩ := hr.2 j c hc
      refine ⟨he ▸ hlen, he ▸ hone, fun i u hu => ?_⟩
      rw [← he, List.getElem?_take, List.getElem?_drop] at hu
      split at hu
      · rw [← hti, List.getElem?_take] at hu
        split at hu
        · rw [← Array.getElem?_toList]; exact hu
        · cases hu
      · cases hu
    · refine Kd.FK_mono (hf j x c hx hc) (fun k hk => ⟨hk.1, fun he => hk.2 (by rw [he]; rfl)⟩)
theorem N_close {g cap : Nat} {cur' : Array Value} {rows : List (List Value)} (hb : base ≤ g) (hgl : g < w.heap.size) (hok : ok g) (hg : w'.heap[g]? = some (.cells cur' e (0, 0))) (hcap : xs.length ≤ cap) (hcm : cap ≤ maxLen) (hcs : cur'.size = cap * d.sz) (hl : rows.length = xs.length)
    (hc : ∀ (j : Nat) (c : List Value), rows[j]? = some c → c.length = d.sz ∧ (∀ u ∈ c, u.oneCell' = true) ∧ ∀ i u, c[i]? = some u → cur'[j * d.sz + i]? = some u)
    (hf : ∀ (j : Nat) (x : α) (c : List Value), xs[j]? = some x → rows[j]? = some c → Kd.FK d w (fun k => ok k ∧ k ≠ g) x c)
    (hm : ∀ k, k < w.heap.size → k ≠ g → w'.heap[k]? = w.heap[k]?) : Kd.N d e w' base ok (.slice (some ⟨g, 0, none⟩) xs.length cap) xs := by
  have hT : (cur'.toList.take (xs.length * d.sz)).length = xs.length * d.sz := by
    rw [List.length_take]
    have h2 : cur'.toList.length = cap * d.sz := by rw [← hcs]; simp
    rw [h2]
    exact Nat.min_eq_left (Nat.mul_le_mul_right _ hcap)
  refine ⟨fun k hk => by cases hk; exact hok, rows, hl, ⟨fun k hk => hk.symm, cur'.toList.take (xs.length * d.sz), ⟨by rw [hT, hl]; rfl, .inr ⟨g, cap, cur', by rw [hl], hb, hg, by omega, hcm, hcs, by rw [hl]; rfl⟩⟩, ⟨by rw [hT, hl]; rfl, fun j c hj => ?_⟩⟩, fun j x c hx hcj => ?_⟩
  · obtain ⟨h1, h2, h3⟩ := hc j c hj
    have hE : ((cur'.toList.take (xs.length * d.sz)).drop (j * d.sz)).take d.sz = c := ?_
    · exact ⟨hE, hE.symm ▸ h1, hE.symm ▸ h2⟩
    have hjl : j < xs.length := by rw [← hl]; exact (List.getElem?_eq_some_iff.1 hj).1
    have hjs : j * d.sz + d.sz ≤ xs.length * d.sz := by rw [← Nat.succ_mul]; exact Nat.mul_le_mul_right _ hjl
    apply List.ext_getElem?
    intro i
    rw [List.getElem?_take]
    split
    · rename_i hi
      rw [List.getElem?_drop, List.getElem?_take, if_pos (by omega), Array.getElem?_toList]
      rw [List.getElem?_eq_getElem (by omega : i < c.length)]
      exact h3 i _ (List.getElem?_eq_getElem (by omega))
    · rw [List.getElem?_eq_none (by omega)]
  · refine Kd.FK_mono (Kd.FK_step (hf j x c hx hcj) (fun k hk hlt => hm k hlt hk.2)) (fun k hk => ⟨hk.1, fun he => hk.2 ?_⟩)
    cases he; rfl
end
def sortIx {α : Type} (cf : α → α → Int) (z : α) (xs : List α) : List Nat :=
  if h : 0 < xs.length then
    have : Inhabited (Fin xs.length) := ⟨⟨0, h⟩⟩
    (pdq (ltOf fun (i j : Fin xs.length) => cf (xs.getD i z) (xs.getD j z)) (Array.ofFn id) 0 xs.length (Lib.bitLen xs.length) true true).toList.map Fin.val
  else []
def sortL {α : Type} (cf : α → α → Int) (z : α) (xs : List α) : List α := (sortIx cf z xs).map fun i => xs.getD i z
section
variable {α : Type} {d : Kd α} {e base : Nat} {ok : Nat → Prop} {w w' : World} {v : Value} {xs : List α}
theorem heap_putRow_other {β : Type} (enc : β → Value) [Inhabited β] (w : World) (blk off : Nat) (dd : Array β) (k : Nat) (h : k ≠ blk) : (putRow enc w blk off dd).heap[k]? = w.heap[k]? := by
  simp only [putRow, mapBlock, Array.getElem?_modify]
  rw [if_neg (fun he => h he.symm)]
theorem heap_putRow_self {β : Type} (enc : β → Value) [Inhabited β] (w : World) (blk off : Nat) (dd : Array β) {cur : Array Value} {e : Nat} {fr : Nat × Nat} (h : w.heap[blk]? = some (.cells cur e fr)) : (putRow enc w blk off dd).heap[blk]? = some (.cells (putCells enc off dd cur) e fr) := by
  simp only [putRow, mapBlock, Array.getElem?_modify, if_true, h, Option.map_some, onCells]
theorem N_put {g cap : Nat} {cur : Array Value} {rows : List (List Value)} {z : α} (W' : World) (os : Array Obj) (m : Nat) (hb : base ≤ g) (hgl : g < w.heap.size) (hok : ok g) (hg : w.heap[g]? = some (.cells cur e (0, 0))) (hcap : xs.length ≤ cap) (hcm : cap ≤ maxLen) (hcs : cur.size = cap * d.sz) (hl : rows.length = xs.length)
    (hc : ∀ (j : Nat) (c : List Value), rows[j]? = some c → c.length = d.sz ∧ (∀ u ∈ c, u.oneCell' = true) ∧ ∀ i u, c[i]? = some u → cur[j * d.sz + i]? = some u)
    (hf : ∀ (j : Nat) (x : α) (c : List Value), xs[j]? = some x → rows[j]? = some c → Kd.FK d w (fun k => ok k ∧ k ≠ g) x c)
    (ix : List Nat) (hix : ∀ i ∈ ix, i < xs.length) (hil : ix.length = xs.length) (F : Array Value) (hF : F.size = xs.length * d.sz) (hFg : ∀ j i, j < xs.length → i < d.sz → F[j * d.sz + i]? = some ((rows.getD (ix.getD j 0) []).getD i (.bool false)))
    (hW : W' = grow (putRow id (Sort.ahead w m) g 0 F) os) :
    Kd.N d e W' base ok (.slice (some ⟨g, 0, none⟩) xs.length cap) (ix.map fun i => xs.getD i z) ∧ Below base w W' ∧ w.grownBy W' (some g) := by
  have hgg : (Sort.ahead w m).heap[g]? = some (.cells cur e (0, 0)) := hg
  have h1 : (putRow id (Sort.ahead w m) g 0 F).heap[g]? = some (.cells (putCells id 0 F cur) e (0, 0)) := heap_putRow_self id _ g 0 F hgg
  have hsz : (putRow id (Sort.ahead w m) g 0 F).heap.size = w.heap.size := size_putRow id _ g 0 F
  have hW2 : ∀ k, k < w.heap.size → W'.heap[k]? = (putRow id (Sort.ahead w m) g 0 F).heap[k]? := fun k hk => by
    rw [hW]
    show ((putRow id (Sort.ahead w m) g 0 F).heap ++ os)[k]? = _
    rw [Array.getElem?_append_left (by rw [hsz]; exact hk)]
  have hm : ∀ k, k < w.heap.size → k ≠ g → W'.heap[k]? = w.heap[k]? := fun k hk hn => by
    rw [hW2 k hk, heap_putRow_other id _ g 0 F k hn]; rfl
  refine ⟨?_, ⟨by rw [hW]; rfl, by rw [hW]; rfl, by rw [hW]; rfl, by rw [hW]; show w.heap.size ≤ ((putRow id (Sort.ahead w m) g 0 F).heap ++ os).size; rw [Array.size_append, hsz]; omega, fun k hk => hm k (by omega) (by omega)⟩, ⟨by rw [hW]; rfl, by rw [hW]; rfl, by rw [hW]; rfl, by rw [hW]; show w.heap.size ≤ ((putRow id (Sort.ahead w m) g 0 F).heap ++ os).size; rw [Array.size_append, hsz]; omega, fun k hk hne => hm k hk (fun he => hne (he ▸ rfl))⟩⟩
  have key := N_close (w := w) (w' := W') (d := d) (e := e) (base := base) (ok := ok) (xs := ix.map fun i => xs.getD i z) (cap := cap) (cur' := putCells id 0 F cur) (rows := ix.map fun i => rows.getD i []) hb hgl hok (by rw [hW2 g hgl]; exact h1) (by simp [hil, hcap]) hcm (by simp [putCells, hcs]) (by simp) ?_ ?_ hm
  · rw [List.length_map, hil] at key; exact key
  · intro j c hj
    rw [List.getElem?_map, Option.map_eq_some_iff] at hj
    obtain ⟨i, hi, rfl⟩ := hj
    have hil2 := hix i (List.mem_of_getElem? hi)
    have hjl : j < xs.length := by rw [← hil]; exact (List.getElem?_eq_some_iff.1 hi).1
    have hr : rows[i]? = some (rows.getD i []) := by rw [List.getD_eq_getElem?_getD, List.getElem?_eq_getElem (by omega)]; rfl
    obtain ⟨c1, c2, c3⟩ := hc i _ hr
    refine ⟨c1, c2, fun t u ht => ?_⟩
    have htl : t < d.sz := by rw [← c1]; exact (List.getElem?_eq_some_iff.1 ht).1
    have h5 := hFg j t hjl htl
    have hlt : j * d.sz + t < F.size := (Array.getElem?_eq_some_iff.1 h5).1
    have hcur := c3 t u ht
    have hjt : j * d.sz + t < cur.size := by
      rw [hcs]
      have : (j + 1) * d.sz ≤ cap * d.sz := Nat.mul_le_mul_right _ (by omega)
      rw [Nat.succ_mul] at this; omega
    simp only [putCells, Array.getElem?_mapIdx]
    rw [Array.getElem?_eq_getElem hjt, Option.map_some, if_pos ⟨Nat.zero_le _, by omega⟩]
    rw [Nat.sub_zero, getElem!_def, h5]
    rw [List.getD_eq_getElem?_getD (l := ix), hi]
    show some (id ((rows.getD i []).getD t (Value.bool false))) = some u
    rw [List.getD_eq_getElem?_getD (l := rows.getD i []), ht]; rfl
  · intro j x c hx hcj
    rw [List.getElem?_map, Option.map_eq_some_iff] at hx hcj
    obtain ⟨i, hi, rfl⟩ := hx
    obtain ⟨i', hi', rfl⟩ := hcj
    rw [hi] at hi'
    obtain rfl := Option.some.inj hi'
    have hil2 := hix i (List.mem_of_getElem? hi)
    have hr : rows[i]? = some (rows.getD i []) := by rw [List.getD_eq_getElem?_getD, List.getElem?_eq_getElem (by omega)]; rfl
    have hx : xs[i]? = some (xs.getD i z) := by rw [List.getD_eq_getElem?_getD, List.getElem?_eq_getElem hil2]; rfl
    exact hf i _ _ hx hr
theorem N_sortK {P : Program} {ρ : Ren} (L : SlLaysF0.n6 P ρ) (aE : ∀ w, (isAgg (ρ.t 24)).run P w = .ok true w) (zE : ∀ w, (Go.sizeOf (ρ.t 24)).run P w = .ok d.sz w)
    (cf : α → α → Int) (z : α) (g : Nat) (eg : ∀ args w, (callFunc g args).run P w = .ok (.enter g args) w)
    {A : Option Addr} {n c : Nat} (h : Kd.N d e w base ok (.slice A n c) xs) (hsz : xs.length < 4611686018427387904)
    (hO : ∀ x ∈ xs, ∀ y ∈ xs, ∀ q ∈ xs, ¬ cf x x < 0 ∧ (cf x y < 0 → cf y q < 0 → cf x q < 0) ∧ (¬ cf x y < 0 → ¬ cf y q < 0 → ¬ cf x q < 0))
    (hcmp : ∀ (W : World) (x y : α) (cx cy : List Value), RowKit.Below base w W → (∀ k, (ok k ∧ some k ≠ (Value.slice A n c).ownBlock) → k < w.heap.size → W.heap[k]? = w.heap[k]?) → x ∈ xs → y ∈ xs → Kd.FK d w (fun k => ok k ∧ some k ≠ (Value.slice A n c).ownBlock) x cx → Kd.FK d w (fun k => ok k ∧ some k ≠ (Value.slice A n c).ownBlock) y cy →
      Calls P g #[.agg cx.toArray, .agg cy.toArray] W fun e w' => e = .returned (.int .i64 (cf x y)) ∧ ∃ q os', w' = grow (W.drewN q) os') :
    Calls P (ρ.f 6) #[.slice A n c, .func (.func g) #[] #[]] w fun e' w' => e' = .returned (.tuple #[]) ∧ Kd.N d e w' base ok (.slice A n c) (sortL cf z xs) ∧ Below base w w' ∧ w.grownBy w' (Value.slice A n c).ownBlock := by
  by_cases hp : 0 < xs.length
  · obtain ⟨gb, cap, cur, rows, hv, hb, hgl, hok, hg, hcap, hcm, hcs, hl, hc, hf⟩ := N_open h hp
    injection hv with h1 h2 h3
    subst h1 h2 h3
    letI inh : Inhabited (Fin xs.length) := ⟨⟨0, hp⟩⟩
    let enc : Fin xs.length → List Value := fun i => rows.getD i.val []
    have hrow : ∀ i : Fin xs.length, rows[i.val]? = some (enc i) := fun i => by
      show _ = some (rows.getD i.val [])
      rw [List.getD_eq_getElem?_getD, List.getElem?_eq_getElem (by omega)]; rfl
    have hxs : ∀ i : Fin xs.length, xs[i.val]? = some (xs.getD i.val z) := fun i => by
      rw [List.getD_eq_getElem?_getD, List.getElem?_eq_getElem i.isLt]; rfl
    have hmem : ∀ i : Fin xs.length, xs.getD i.val z ∈ xs := fun i => List.mem_of_getElem? (hxs i)
    let cF : Fin xs.length → Fin xs.length → Int := fun i j => cf (xs.getD i.val z) (xs.getD j.val z)
    have hS : SWO (ltOf cF) := by
      refine ⟨fun x => ?_, fun x y q => ?_, fun x y q => ?_⟩
      · have := (hO _ (hmem x) _ (hmem x) _ (hmem x)).1
        simpa [ltOf, cF] using this
      · have := (hO _ (hmem x) _ (hmem y) _ (hmem q)).2.1
        simpa [ltOf, cF] using this
      · have := (hO _ (hmem x) _ (hmem y) _ (hmem q)).2.2
        simpa [ltOf, cF] using this
    have hH : HoldsK enc d.sz w gb 0 (Array.ofFn (n := xs.length) id) := by
      intro j hj
      rw [size_flatK, Array.size_ofFn] at hj
      have hs0 : 0 < d.sz := by
        rcases Nat.eq_zero_or_pos d.sz with h0 | h0
        · rw [h0] at hj; omega
        · exact h0
      have hq : j / d.sz < xs.length := by rw [Nat.div_lt_iff_lt_mul hs0]; exact hj
      have hr : j % d.sz < d.sz := Nat.mod_lt _ hs0
      rw [get_flatK _ _ _ _ (by rw [Array.size_ofFn]; exact hj)]
      have he : (Array.ofFn (n := xs.length) id)[j / d.sz]! = ⟨j / d.sz, hq⟩ := by
        rw [getElem!_pos _ _ (by simpa using hq)]; simp
      rw [he]
      obtain ⟨c1, c2, c3⟩ := hc _ _ (hrow ⟨j / d.sz, hq⟩)
      have hcell := c3 (j % d.sz) _ (List.getElem?_eq_getElem (by omega))
      simp only at hcell
      rw [show j / d.sz * d.sz + j % d.sz = j from Nat.div_add_mod' _ _] at hcell
      refine ⟨?_, ?_⟩
      · simp only [World.cell?, hg, Nat.zero_add]
        rw [hcell, if_neg (by simp)]
        congr 1
        exact (getElem!_pos (enc ⟨j / d.sz, hq⟩) (j % d.sz) (by omega)).symm
      · simp [World.frozen?, hg]
    have hcm2 : CmpLays P g #[] enc d.sz cF gb 0 (Array.ofFn (n := xs.length) id).size w := by
      intro m os dk hdk x y
      rw [Array.append_empty]
      refine hcmp _ _ _ _ _ ⟨rfl, rfl, rfl, ?_, fun k hk => ?_⟩ (fun k hne hk => ?_) (hmem x) (hmem y) (Kd.FK_mono (hf _ _ _ (hxs x) (hrow x)) (fun k hk => ⟨hk.1, fun he => hk.2 (by cases he; rfl)⟩)) (Kd.FK_mono (hf _ _ _ (hxs y) (hrow y)) (fun k hk => ⟨hk.1, fun he => hk.2 (by cases he; rfl)⟩))
      · show w.heap.size ≤ ((putRow id (Sort.ahead w m) gb 0 (flatK enc d.sz dk)).heap ++ os).size
        rw [Array.size_append, size_putRow]
        exact Nat.le_add_right _ _
      · show ((putRow id (Sort.ahead w m) gb 0 (flatK enc d.sz dk)).heap ++ os)[k]? = _
        rw [Array.getElem?_append_left (by rw [size_putRow]; exact Nat.lt_trans (Nat.lt_of_lt_of_le hk hb) hgl), heap_putRow_other id _ gb 0 _ k (by omega)]
        rfl
      have hkg : k ≠ gb := by
        rintro rfl
        exact hne.2 rfl
      show ((putRow id (Sort.ahead w m) gb 0 (flatK enc d.sz dk)).heap ++ os)[k]? = _
      rw [Array.getElem?_append_left (by rw [size_putRow]; exact hk), heap_putRow_other id _ gb 0 _ k hkg]
      rfl
    have hk : ∀ i, (enc i).length = d.sz := fun i => (hc _ _ (hrow i)).1
    have h1 : ∀ i, ∀ v ∈ enc i, v.oneCell' = true := fun i => (hc _ _ (hrow i)).2.1
    have key := AnyQ.slices_SortFunc_eq (P := P) (ρ := ρ) L d.sz aE zE enc hk h1 cF hS g #[] gb 0 c (Array.ofFn (n := xs.length) id) w eg hcm2 hH hgl (by rw [Array.size_ofFn]; exact hsz)
    have hps := (pdq_sorts (ltOf cF) hS (Array.ofFn (n := xs.length) id) 0 xs.length (Lib.bitLen xs.length) true true (Nat.zero_le _) (by rw [Array.size_ofFn]; exact Nat.le_refl _) (Or.inl rfl)).1
    rw [Array.size_ofFn] at key
    refine key.mono ?_
    rintro e' w' ⟨rfl, m, os, hw⟩
    refine ⟨rfl, ?_⟩
    have hix : sortIx cf z xs = (pdq (ltOf cF) (Array.ofFn id) 0 xs.length (Lib.bitLen xs.length) true true).toList.map Fin.val := by
      unfold sortIx
      rw [dif_pos hp]
    generalize hD : pdq (ltOf cF) (Array.ofFn (n := xs.length) id) 0 xs.length (Lib.bitLen xs.length) true true = D at hw hps hix
    have hDs : D.size = xs.length := by rw [hps.1, Array.size_ofFn]
    have := N_put (z := z) w' os m hb hgl hok hg hcap hcm hcs hl hc hf (D.toList.map Fin.val) (by
        intro i hi
        obtain ⟨j, _, rfl⟩ := List.mem_map.1 hi
        exact j.isLt) (by rw [List.length_map, Array.length_toList, hDs]) (flatK enc d.sz D) (by rw [size_flatK, hDs]) (by
        intro j i hj hi
        have hlt : j * d.sz + i < D.size * d.sz := by
          have := Nat.mul_le_mul_right d.sz (show j + 1 ≤ D.size by omega)
          rw [Nat.succ_mul] at this; omega
        have e1 : (j * d.sz + i) / d.sz = j := (blk_iff d.sz j _ (by omega)).1 ⟨by omega, by omega⟩
        have e2 : (j * d.sz + i) % d.sz = i := by rw [Nat.mod_eq_sub_div_mul, e1]; omega
        have hg2 := get_flatK enc d.sz D (j * d.sz + i) hlt
        rw [e1, e2] at hg2
        rw [getElem!_pos _ _ (by rw [size_flatK]; exact hlt)] at hg2
        rw [Array.getElem?_eq_getElem (by rw [size_flatK]; exact hlt), hg2]
        congr 1
        rw [getElem!_pos D j (by omega)]
        have hgd : (D.toList.map Fin.val).getD j 0 = (D[j]'(by omega)).val := by
          rw [List.getD_eq_getElem?_getD, List.getElem?_map, Array.getElem?_toList, Array.getElem?_eq_getElem (by omega)]; rfl
        rw [hgd]
        rw [getElem!_pos _ i (by rw [hk]; exact hi)]
        show _ = (enc (D[j]'(by omega))).getD i (Value.bool false)
        rw [List.getD_eq_getElem?_getD, List.getElem?_eq_getElem (by rw [hk]; exact hi)]; rfl) hw
    unfold sortL
    rw [hix]
    exact this
  · have hx : xs = [] := List.eq_nil_of_length_eq_zero (by omega)
    subst hx
    have hn : n = 0 := (Kd.N_reads' h).1
    subst hn
    refine (AnyF.slices_SortFunc_none L A c _ w).mono ?_
    rintro e' w' ⟨rfl, rfl⟩
    refine ⟨rfl, ?_, Below.refl _ _, ⟨rfl, rfl, rfl, Nat.le_refl _, fun _ _ _ => rfl⟩⟩
    unfold sortL sortIx
    rw [dif_neg (by simp)]
    exact h
theorem N_sort1 {P : Program} {ρ : Ren} (L : SlLaysF.n6 P ρ) (L0 : SlLaysF0.n6 P ρ) (z1 : d.sz = 1)
    (cf : α → α → Int) (z : α) (g : Nat) (eg : ∀ args w, (callFunc g args).run P w = .ok (.enter g args) w)
    {A : Option Addr} {n c : Nat} (h : Kd.N d e w base ok (.slice A n c) xs) (hsz : xs.length < 4611686018427387904)
    (hO : ∀ x ∈ xs, ∀ y ∈ xs, ∀ q ∈ xs, ¬ cf x x < 0 ∧ (cf x y < 0 → cf y q < 0 → cf x q < 0) ∧ (¬ cf x y < 0 → ¬ cf y q < 0 → ¬ cf x q < 0))
    (hcmp : ∀ (W : World) (x y : α) (cx cy : Value), RowKit.Below base w W → (∀ k, (ok k ∧ some k ≠ (Value.slice A n c).ownBlock) → k < w.heap.size → W.heap[k]? = w.heap[k]?) → x ∈ xs → y ∈ xs → Kd.FK d w (fun k => ok k ∧ some k ≠ (Value.slice A n c).ownBlock) x [cx] → Kd.FK d w (fun k => ok k ∧ some k ≠ (Value.slice A n c).ownBlock) y [cy] →
      Calls P g #[cx, cy] W fun e w' => e = .returned (.int .i64 (cf x y)) ∧ ∃ q os', w' = grow (W.drewN q) os') :
    Calls P (ρ.f 6) #[.slice A n c, .func (.func g) #[] #[]] w fun e' w' => e' = .returned (.tuple #[]) ∧ Kd.N d e w' base ok (.slice A n c) (sortL cf z xs) ∧ Below base w w' ∧ w.grownBy w' (Value.slice A n c).ownBlock := by
  by_cases hp : 0 < xs.length
  · obtain ⟨gb, cap, cur, rows, hv, hb, hgl, hok, hg, hcap, hcm, hcs, hl, hc, hf⟩ := N_open h hp
    injection hv with h1 h2 h3
    subst h1 h2 h3
    letI inh : Inhabited (Fin xs.length) := ⟨⟨0, hp⟩⟩
    let enc : Fin xs.length → List Value := fun i => rows.getD i.val []
    have hrow : ∀ i : Fin xs.length, rows[i.val]? = some (enc i) := fun i => by
      show _ = some (rows.getD i.val [])
      rw [List.getD_eq_getElem?_getD, List.getElem?_eq_getElem (by omega)]; rfl
    have hxs : ∀ i : Fin xs.length, xs[i.val]? = some (xs.getD i.val z) := fun i => by
      rw [List.getD_eq_getElem?_getD, List.getElem?_eq_getElem i.isLt]; rfl
    have hmem : ∀ i : Fin xs.length, xs.getD i.val z ∈ xs := fun i => List.mem_of_getElem? (hxs i)
    let cF : Fin xs.length → Fin xs.length → Int := fun i j => cf (xs.getD i.val z) (xs.getD j.val z)
    have hS : SWO (ltOf cF) := by
      refine ⟨fun x => ?_, fun x y q => ?_, fun x y q => ?_⟩
      · have := (hO _ (hmem x) _ (hmem x) _ (hmem x)).1
        simpa [ltOf, cF] using this
      · have := (hO _ (hmem x) _ (hmem y) _ (hmem q)).2.1
        simpa [ltOf, cF] using this
      · have := (hO _ (hmem x) _ (hmem y) _ (hmem q)).2.2
        simpa [ltOf, cF] using this
    have hk : ∀ i, (enc i).length = 1 := fun i => z1 ▸ (hc _ _ (hrow i)).1
    let en : Fin xs.length → Value := fun i => (enc i).getD 0 (.bool false)
    have hen : ∀ i, enc i = [en i] := fun i => by
      have := hk i
      show enc i = [(enc i).getD 0 (.bool false)]
      match hq : enc i, this with
      | [x], _ => rfl
    have hH : Holds en w gb 0 (Array.ofFn (n := xs.length) id) := by
      intro j hj
      rw [Array.size_ofFn] at hj
      have he : (Array.ofFn (n := xs.length) id)[j]! = ⟨j, hj⟩ := by
        rw [getElem!_pos _ _ (by simpa using hj)]; simp
      rw [he]
      obtain ⟨c1, c2, c3⟩ := hc _ _ (hrow ⟨j, hj⟩)
      have hcell := c3 0 (en ⟨j, hj⟩) (by rw [hen]; rfl)
      simp only [z1, Nat.mul_one, Nat.add_zero] at hcell
      refine ⟨?_, ?_⟩
      · simp only [World.cell?, hg, Nat.zero_add]
        rw [hcell, if_neg (by simp)]
      · simp [World.frozen?, hg]
    have hcm2 : CmpLays1 P g #[] en cF gb 0 (Array.ofFn (n := xs.length) id).size w := by
      intro m os dk hdk x y
      rw [Array.append_empty]
      refine hcmp _ _ _ _ _ ⟨rfl, rfl, rfl, ?_, fun k hk => ?_⟩ (fun k hne hk => ?_) (hmem x) (hmem y) (Kd.FK_mono (hen x ▸ hf _ _ _ (hxs x) (hrow x)) (fun k hk => ⟨hk.1, fun he => hk.2 (by cases he; rfl)⟩)) (Kd.FK_mono (hen y ▸ hf _ _ _ (hxs y) (hrow y)) (fun k hk => ⟨hk.1, fun he => hk.2 (by cases he; rfl)⟩))
      · show w.heap.size ≤ ((putRow en (Sort.ahead w m) gb 0 dk).heap ++ os).size
        rw [Array.size_append, size_putRow]
        exact Nat.le_add_right _ _
      · show ((putRow en (Sort.ahead w m) gb 0 dk).heap ++ os)[k]? = _
        rw [Array.getElem?_append_left (by rw [size_putRow]; exact Nat.lt_trans (Nat.lt_of_lt_of_le hk hb) hgl), heap_putRow_other en _ gb 0 _ k (by omega)]
        rfl
      have hkg : k ≠ gb := by
        rintro rfl
        exact hne.2 rfl
      show ((putRow en (Sort.ahead w m) gb 0 dk).heap ++ os)[k]? = _
      rw [Array.getElem?_append_left (by rw [size_putRow]; exact hk), heap_putRow_other en _ gb 0 _ k hkg]
      rfl
    have h1 : OneCell en := fun i => (hc _ _ (hrow i)).2.1 _ (by rw [hen]; exact List.mem_singleton.2 rfl)
    have key := Any.slices_SortFunc_eq (P := P) (ρ := ρ) L en h1 cF hS g #[] gb 0 c (Array.ofFn (n := xs.length) id) w eg hcm2 hH hgl (by rw [Array.size_ofFn]; exact hsz)
    have hps := (pdq_sorts (ltOf cF) hS (Array.ofFn (n := xs.length) id) 0 xs.length (Lib.bitLen xs.length) true true (Nat.zero_le _) (by rw [Array.size_ofFn]; exact Nat.le_refl _) (Or.inl rfl)).1
    rw [Array.size_ofFn] at key
    refine key.mono ?_
    rintro e' w' ⟨rfl, m, os, hw⟩
    refine ⟨rfl, ?_⟩
    have hix : sortIx cf z xs = (pdq (ltOf cF) (Array.ofFn id) 0 xs.length (Lib.bitLen xs.length) true true).toList.map Fin.val := by
      unfold sortIx
      rw [dif_pos hp]
    generalize hD : pdq (ltOf cF) (Array.ofFn (n := xs.length) id) 0 xs.length (Lib.bitLen xs.length) true true = D at hw hps hix
    have hDs : D.size = xs.length := by rw [hps.1, Array.size_ofFn]
    have := N_put (z := z) w' os m hb hgl hok hg hcap hcm hcs hl hc hf (D.toList.map Fin.val) (by
        intro i hi
        obtain ⟨j, _, rfl⟩ := List.mem_map.1 hi
        exact j.isLt) (by rw [List.length_map, Array.length_toList, hDs]) (D.map en) (by rw [Array.size_map, hDs, z1, Nat.mul_one]) (by
        intro j i hj hi
        obtain rfl : i = 0 := by omega
        rw [z1, Nat.mul_one, Nat.add_zero, Array.getElem?_map, Array.getElem?_eq_getElem (by omega), Option.map_some]
        have hgd : (D.toList.map Fin.val).getD j 0 = (D[j]'(by omega)).val := by
          rw [List.getD_eq_getElem?_getD, List.getElem?_map, Array.getElem?_toList, Array.getElem?_eq_getElem (by omega)]; rfl
        rw [hgd]) (by
        rw [hw]
        unfold sortWorld
        congr 1
        unfold putRow
        congr 1
        funext c0
        apply Array.ext_getElem?
        intro k
        simp only [putCells, Array.getElem?_mapIdx, Array.size_map]
        cases c0[k]? with
        | none => rfl
        | some y =>
          simp only [Option.map_some]
          by_cases hr : 0 ≤ k ∧ k < 0 + D.size
          · rw [if_pos hr, if_pos hr, getElem!_pos D _ (by omega), getElem!_pos (D.map en) _ (by rw [Array.size_map]; omega), Array.getElem_map]; rfl
          · rw [if_neg hr, if_neg hr])
    unfold sortL
    rw [hix]
    exact this
  · have hx : xs = [] := List.eq_nil_of_length_eq_zero (by omega)
    subst hx
    have hn : n = 0 := (Kd.N_reads' h).1
    subst hn
    refine (AnyF.slices_SortFunc_none L0 A c _ w).mono ?_
    rintro e' w' ⟨rfl, rfl⟩
    refine ⟨rfl, ?_, Below.refl _ _, ⟨rfl, rfl, rfl, Nat.le_refl _, fun _ _ _ => rfl⟩⟩
    unfold sortL sortIx
    rw [dif_neg (by simp)]
    exact h
theorem sortIx_spec {α : Type} (cf : α → α → Int) (z : α) (xs : List α)
    (hO : ∀ x ∈ xs, ∀ y ∈ xs, ∀ q ∈ xs, ¬ cf x x < 0 ∧ (cf x y < 0 → cf y q < 0 → cf x q < 0) ∧ (¬ cf x y < 0 → ¬ cf y q < 0 → ¬ cf x q < 0)) :
    (sortIx cf z xs).Perm (List.range xs.length) ∧ (sortIx cf z xs).Pairwise fun i j => ¬ cf (xs.getD j z) (xs.getD i z) < 0 := by
  unfold sortIx
  by_cases hp : 0 < xs.length
  · rw [dif_pos hp]
    letI inh : Inhabited (Fin xs.length) := ⟨⟨0, hp⟩⟩
    let cF : Fin xs.length → Fin xs.length → Int := fun i j => cf (xs.getD i.val z) (xs.getD j.val z)
    have hxs : ∀ i : Fin xs.length, xs[i.val]? = some (xs.getD i.val z) := fun i => by
      rw [List.getD_eq_getElem?_getD, List.getElem?_eq_getElem i.isLt]; rfl
    have hmem : ∀ i : Fin xs.length, xs.getD i.val z ∈ xs := fun i => List.mem_of_getElem? (hxs i)
    have hS : SWO (ltOf cF) := by
      refine ⟨fun x => ?_, fun x y q => ?_, fun x y q => ?_⟩
      · have := (hO _ (hmem x) _ (hmem x) _ (hmem x)).1
        simpa [ltOf, cF] using this
      · have := (hO _ (hmem x) _ (hmem y) _ (hmem q)).2.1
        simpa [ltOf, cF] using this
      · have := (hO _ (hmem x) _ (hmem y) _ (hmem q)).2.2
        simpa [ltOf, cF] using this
    have hps := pdq_sorts (ltOf cF) hS (Array.ofFn (n := xs.length) id) 0 xs.length (Lib.bitLen xs.length) true true (Nat.zero_le _) (by rw [Array.size_ofFn]; exact Nat.le_refl _) (Or.inl rfl)
    show (List.map Fin.val (pdq (ltOf cF) (Array.ofFn id) 0 xs.length (Lib.bitLen xs.length) true true).toList).Perm _ ∧ List.Pairwise _ (List.map Fin.val (pdq (ltOf cF) (Array.ofFn id) 0 xs.length (Lib.bitLen xs.length) true true).toList)
    generalize pdq (ltOf cF) (Array.ofFn (n := xs.length) id) 0 xs.length (Lib.bitLen xs.length) true true = D at hps
    obtain ⟨⟨h1, _, h3⟩, h4⟩ := hps
    rw [Array.size_ofFn] at h1
    constructor
    · rw [Array.extract_eq_self_of_le (by omega), Array.extract_eq_self_of_le (by rw [Array.size_ofFn]; omega)] at h3
      refine (h3.map Fin.val).trans ?_
      have : (Array.ofFn (n := xs.length) id).toList.map Fin.val = List.range xs.length := by
        apply List.ext_getElem
        · simp
        · intro i h1 h2; simp
      rw [this]
    · rw [List.pairwise_map, List.pairwise_iff_getElem]
      intro i j hi hj hij
      rw [Array.length_toList] at hi hj
      have := h4 i j (Nat.zero_le _) hij (by omega)
      rw [getElem!_pos D j (by omega), getElem!_pos D i (by omega)] at this
      simpa [ltOf, cF] using this
  · rw [dif_neg hp]
    have : xs.length = 0 := by omega
    rw [this]
    exact ⟨List.Perm.refl _, List.Pairwise.nil⟩
theorem sortL_perm {α : Type} (cf : α → α → Int) (z : α) (xs : List α)
    (hO : ∀ x ∈ xs, ∀ y ∈ xs, ∀ q ∈ xs, ¬ cf x x < 0 ∧ (cf x y < 0 → cf y q < 0 → cf x q < 0) ∧ (¬ cf x y < 0 → ¬ cf y q < 0 → ¬ cf x q < 0)) : (sortL cf z xs).Perm xs := by
  unfold sortL
  refine ((sortIx_spec cf z xs hO).1.map _).trans ?_
  have : (List.range xs.length).map (fun i => xs.getD i z) = xs := by
    apply List.ext_getElem
    · simp
    · intro i h1 h2
      rw [List.getElem_map, List.getElem_range, List.getD_eq_getElem?_getD, List.getElem?_eq_getElem h2]; rfl
  rw [this]
theorem sortL_sorted {α : Type} (cf : α → α → Int) (z : α) (xs : List α)
    (hO : ∀ x ∈ xs, ∀ y ∈ xs, ∀ q ∈ xs, ¬ cf x x < 0 ∧ (cf x y < 0 → cf y q < 0 → cf x q < 0) ∧ (¬ cf x y < 0 → ¬ cf y q < 0 → ¬ cf x q < 0)) : (sortL cf z xs).Pairwise fun a b => ¬ cf b a < 0 := by
  unfold sortL
  rw [List.pairwise_map]
  exact (sortIx_spec cf z xs hO).2
end
end Go.Proofs.YtobdccgpbohpiaaGreatDoor
