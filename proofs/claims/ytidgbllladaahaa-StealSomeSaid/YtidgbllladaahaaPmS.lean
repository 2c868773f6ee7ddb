/- A part of a layer between the model's runs and plain values: steps of code simulate plain functions; no program is named here. -/
import Derived.Test.YtidgbllladaahaaPmP
import Derived.Shelf.SlSortCmp.NoneTotal
set_option linter.all false
namespace Go.PM
open Go Go.RowKit Go.Shelf Go.Sort Go.Proofs

/-! ### slices.SortFunc, of numbers, under whatever comparison that makes values alone -/
/-- What a call that was handed no objects leaves of the world. -/
theorem grown_of {W w' : World} {S0 : Nat → Prop} {t τ' : Tie} {post : St} {a' : Act} (h : SimAt ⟨W, 0, S0, fun _ => False, t⟩ τ' post a' w') : ∃ q os, w' = grow (W.drewN q) os := by
  have hsz : W.heap.size ≤ w'.heap.size := h.grow
  have hdr : W.drawn ≤ w'.drawn := h.output.2
  refine ⟨w'.drawn - W.drawn, w'.heap.extract W.heap.size w'.heap.size, ?_⟩
  have hheap : w'.heap = W.heap ++ w'.heap.extract W.heap.size w'.heap.size := by
    apply Array.ext_getElem?
    intro k
    by_cases hk : k < W.heap.size
    · rw [Array.getElem?_append_left hk]
      exact h.keep k hk (fun h => h)
    · rw [Array.getElem?_append_right (by omega), Array.getElem?_extract]
      by_cases hk2 : k - W.heap.size < min w'.heap.size w'.heap.size - W.heap.size
      · rw [if_pos hk2]
        congr 1
        omega
      · rw [if_neg hk2]
        have : w'.heap.size ≤ k := by omega
        exact Array.getElem?_eq_none this
  have e1 : w'.os = W.os := h.os
  have e2 : w'.tape = W.tape := h.tape
  have e3 : w'.output = W.output := h.output.1
  have e4 : w'.drawn = W.drawn + (w'.drawn - W.drawn) := by omega
  cases w'
  simp only [grow, World.drewN, World.mk.injEq] at *
  exact ⟨hheap, e2, e4, e1, e3⟩

def ltO (cmp : Int → Int → Option Int) (x y : Int) : Bool := match cmp x y with
  | some c => decide (c < 0)
  | none => false
/-- What is asked of a comparison, at the elements of a list: it answers; it is an order, in which different ones differ. -/
def CmpOk (l : List Int) (cmp : Int → Int → Option Int) : Prop :=
  (∀ x ∈ l, ∀ y ∈ l, ∃ c, cmp x y = some c) ∧ (∀ x ∈ l, ltO cmp x x = false) ∧ (∀ x ∈ l, ∀ y ∈ l, ∀ z ∈ l, ltO cmp x y = true → ltO cmp y z = true → ltO cmp x z = true) ∧
  (∀ x ∈ l, ∀ y ∈ l, ∀ z ∈ l, ltO cmp x y = false → ltO cmp y z = false → ltO cmp x z = false) ∧ ∀ x ∈ l, ∀ y ∈ l, ltO cmp x y = false → ltO cmp y x = false → x = y
open Classical in
noncomputable def sortO (l : List Int) (cmp : Int → Int → Option Int) : Option (List Int) := if CmpOk l cmp ∧ l.length ≤ 1000000000 then some (l.mergeSort fun x y => !ltO cmp y x) else none

def eI (x : Int) : List T := [.v (.int .i64 x)]

theorem acalls_sort {P : Program} {ρ : Ren} (L : SlLaysF.n6 P ρ) (hok : FnOk P (ρ.f 6)) {e : TypeId} {g : FuncId} {caps : List (List T)} (l : List Int) (cmp : Int → Int → Option Int)
    (hcmp : ∀ x y r, cmp x y = some r → ACalls P g ([.one (.t (.v (.int .i64 x))), .one (.t (.v (.int .i64 y)))] ++ caps.map fun cs => .one (.tptr cs 0)) [] (.one (.t (.v (.int .i64 r)))) []) (r : List Int) (h : sortO l cmp = some r) :
    ACalls P (ρ.f 6) [.one (.row 1000000), .one (.t (.clo g caps))] [(.row 1000000, .r e 1 (l.map eI))] (.tup []) [(.row 1000000, .r e 1 (r.map eI))] := by
  refine ⟨hok, fun w S0 O τ vals hs hins => ?_⟩
  unfold sortO at h
  split at h
  case isFalse => cases h
  rename_i hc
  obtain ⟨⟨c1, c2, c3, c4, c5⟩, hlen⟩ := hc
  injection h with h
  -- the operands
  obtain ⟨hl, hv⟩ := hins
  obtain ⟨v0, v1, rfl⟩ : ∃ v0 v1, vals = [v0, v1] := by
    match vals, hl with
    | [a, b], _ => exact ⟨a, b, rfl⟩
  obtain ⟨u0, hu0, hr0⟩ := hv 0 _ rfl
  obtain ⟨u1, hu1, hr1⟩ := hv 1 _ rfl
  simp only [List.getElem?_cons_zero, List.getElem?_cons_succ, Option.some.injEq] at hu0 hu1
  subst hu0 hu1
  have hv0 : v0 = τ.ν 1000000 := hr0.1
  have hclo : RepT w (Env.S ⟨w, 0, S0, O, τ⟩ τ) (.clo g caps) v1 := hr1
  have hrow := hs.get (.row 1000000)
  have hlk : look [(.row 1000000, .r e 1 (l.map eI))] (.row 1000000) = Val.r e 1 (l.map eI) := rfl
  rw [hlk] at hrow
  obtain ⟨hκ, hρ, h0, hsz, xs, hown, hrep⟩ := hrow
  have hback : ∀ {w' : World} {d' : List Int}, SimAt ⟨w, 0, S0, O, τ⟩ τ ((.row 1000000, .r e 1 (d'.map eI)) :: [(.row 1000000, .r e 1 (l.map eI))]) ⟨#[], []⟩ w' → d' = r → ∃ v τ', Ending.returned (.tuple #[]) = .returned v ∧ SimAt ⟨w, 0, S0, O, τ⟩ τ' [(.row 1000000, .r e 1 (r.map eI))] ⟨#[], []⟩ w' ∧ RepM w' (Env.S ⟨w, 0, S0, O, τ⟩ τ') τ' (.tup []) v ∧ ∀ n k, τ'.ρ n = some k → 2000000 ≤ n ∨ τ.ρ n = some k := fun {w' d'} hsim e' => by
    subst e'
    refine ⟨.tuple #[], τ, rfl, hsim.less fun l' => ?_, ⟨#[], rfl, rfl, fun j b hj => by simp at hj⟩, fun n k hk => .inr hk⟩
    right
    rw [look_cons, look_cons]
    by_cases e1 : Loc.row 1000000 = l'
    · rw [if_pos e1, if_pos e1]
    · rw [if_neg e1, if_neg e1, look_cons, if_neg e1]
  by_cases hnil : l = []
  · -- no element
    subst hnil
    obtain ⟨A, c, hA⟩ : ∃ A c, v0 = .slice A 0 c := by
      rw [hv0]
      rcases hown.2 with ⟨e1, _⟩ | ⟨gb, cap, _, e1, _⟩
      · exact ⟨none, 0, e1⟩
      · exact ⟨some ⟨gb, 0, none⟩, cap, e1⟩
    subst hA
    refine (AnyF.slices_SortFunc_none { L with } A c v1 w).mono ?_
    rintro e' w' ⟨rfl, rfl⟩
    refine hback (d' := []) ?_ (by rw [← h]; simp)
    exact hs.relabel hlk fun hh => hh
  · obtain ⟨x0, hx0⟩ := List.exists_mem_of_ne_nil l hnil
    have hpos : 0 < l.length := List.length_pos_iff.2 hnil
    rcases hown.2 with ⟨_, hn0⟩ | ⟨b, cap, cur, e1, _, hb, hnc, hcm, hcs, htk⟩
    · simp at hn0; exact absurd hn0 hnil
    have hn : (l.map eI).length = l.length := List.length_map ..
    rw [hn] at hnc
    let α := {x : Int // x ∈ l}
    haveI : Inhabited α := ⟨⟨x0, hx0⟩⟩
    let enc : α → Value := fun x => .int .i64 x.1
    let cf : α → α → Int := fun x y => (cmp x.1 y.1).getD 0
    let d : Array α := l.attach.toArray
    have hd : d.size = l.length := by
      show l.attach.toArray.size = _
      simp
    have hlt : ∀ x y : α, ltOf cf x y = ltO cmp x.1 y.1 := fun x y => by
      obtain ⟨c, hc⟩ := c1 x.1 x.2 y.1 y.2
      simp [ltOf, ltO, cf, hc]
    have hO : SWO (ltOf cf) := ⟨fun x => by rw [hlt]; exact c2 _ x.2, fun x y z => by rw [hlt, hlt, hlt]; exact c3 _ x.2 _ y.2 _ z.2, fun x y z => by rw [hlt, hlt, hlt]; exact c4 _ x.2 _ y.2 _ z.2⟩
    have hT : ∀ x y : α, ltOf cf x y = false → ltOf cf y x = false → x = y := fun x y => by
      rw [hlt, hlt]
      exact fun a b => Subtype.ext (c5 _ x.2 _ y.2 a b)
    have hblk : b < w.heap.size := (Array.getElem?_eq_some_iff.1 hb).1
    have hbρ : τ.ρ 1000000 = some b := by rw [← hρ, e1]; rfl
    have hxs : ∀ j, j < l.length → xs[j]? = some (Value.int .i64 (l[j]?.getD 0)) := fun j hj => by
      obtain ⟨u, hu, hr⟩ := hrep j (eI l[j]) 0 (.v (.int .i64 l[j])) (by rw [List.getElem?_map, List.getElem?_eq_getElem hj]; rfl) rfl
      cases hr
      simpa [hj] using hu
    have hdj : ∀ (j : Nat) (hj : j < l.length), (d[j]!).1 = l[j] := fun j hj => by
      rw [getElem!_pos d j (by omega)]
      show (l.attach.toArray[j]'_).1 = _
      simp
    have hH : Sort.Holds enc w b 0 d := fun j hj => by
      rw [hd] at hj
      have hc := hown.cells (g := b) (by rw [e1]; rfl) j _ (hxs j hj)
      have hadd : (⟨b, 0, none⟩ : Addr).add j = ⟨b, 0 + j, none⟩ := by unfold Addr.add; split <;> simp_all
      rw [hadd] at hc
      refine ⟨?_, by simp [World.frozen?, hb]⟩
      rw [hc]
      simp [enc, hdj j hj, hj]
    obtain ⟨cb, hcb, hbox⟩ : ∃ cb : Array Value, v1 = .func (.func g) #[] cb ∧ ∀ W : World, (∀ k, k < w.heap.size → k ≠ b → W.heap[k]? = w.heap[k]?) → RepMs W (fun _ => True) Tie.empty (caps.map fun cs => .one (.tptr cs 0)) cb.toList := by
      cases hclo with
      | @clo _ _ ads vs hcell hrp =>
        refine ⟨_, rfl, fun W hW => ⟨by simp, fun j m hj => ?_⟩⟩
        rw [List.getElem?_map] at hj
        cases hc : caps[j]? with
        | none => rw [hc] at hj; cases hj
        | some cs =>
          rw [hc] at hj
          simp only [Option.map_some, Option.some.injEq] at hj
          subst hj
          have hjl : j < caps.length := (List.getElem?_eq_some_iff.1 hc).1
          refine ⟨.pointer (some (ads j)), by simp [List.getElem?_range hjl], ads j, by simp [Addr.add], fun k t ht => ?_⟩
          obtain ⟨s1, s2⟩ := hcell j cs k t hc ht
          have hlt' := World.block_lt_of_cell? w _ s2
          rw [block_add] at hlt'
          have hne : (ads j).block ≠ b := fun e' => s1.2 1000000 (by rw [hbρ, e'])
          refine ⟨trivial, vs j k, cell_step s2 (by rw [block_add]; exact hW _ hlt' hne), (hrp j cs k t hc ht).step fun q hq hsq => ⟨trivial, hW q hq (fun e' => hsq.2 1000000 (by rw [hbρ, e']))⟩⟩
    subst hcb
    have hW : ∀ (m : Nat) (os : Array Obj) (dk : Array α) (k : Nat), k < w.heap.size → k ≠ b → (sortWorld enc w b 0 m dk os).heap[k]? = w.heap[k]? := fun m os dk k hk hkb => by
      unfold sortWorld
      rw [heap_grow_old _ _ (by simpa using hk)]
      simp only [putRow, mapBlock, Array.getElem?_modify, if_neg (Ne.symm hkb), heap_ahead]
    have hL : CmpLays1 P g cb enc cf b 0 d.size w := fun m os dk _ x y => by
      obtain ⟨c, hc⟩ := c1 x.1 x.2 y.1 y.2
      have hcf : cf x y = c := by simp [cf, hc]
      obtain ⟨hokg, hA⟩ := hcmp x.1 y.1 c hc
      have hb2 := hbox (sortWorld enc w b 0 m dk os) (hW m os dk)
      have := hA (sortWorld enc w b 0 m dk os) (fun _ => True) (fun _ => False) Tie.empty ([enc x, enc y] ++ cb.toList) (sim_empty _ _) (by
        refine ⟨by simp only [List.length_append]; rw [hb2.1]; rfl, fun j mm hj => ?_⟩
        match j with
        | 0 => simp at hj; subst hj; exact ⟨enc x, rfl, RepT.v rfl⟩
        | 1 => simp at hj; subst hj; exact ⟨enc y, rfl, RepT.v rfl⟩
        | j + 2 =>
          obtain ⟨u, hu, hr⟩ := hb2.2 j mm (by simpa using hj)
          refine ⟨u, by simpa using hu, RepM.step hr (fun k _ _ => ⟨⟨.inl trivial, fun n hn => by cases hn⟩, rfl⟩) (fun _ _ => ⟨rfl, rfl⟩)⟩)
      have harr : (([enc x, enc y] ++ cb.toList).toArray) = #[enc x, enc y] ++ cb := by simp
      rw [harr] at this
      refine this.mono ?_
      rintro e' w' ⟨v, τ', rfl, hsim, hrv, _⟩
      obtain ⟨q, os', hq⟩ := grown_of hsim
      refine ⟨?_, q, os', hq⟩
      have : RepT w' _ (.v (.int .i64 c)) v := hrv
      cases this
      rw [hcf]
    have hcall := Any.slices_SortFunc_total L enc (fun _ => rfl) cf hO g cb b 0 cap d w (fun args W => (hcmp x0 x0 _ (c1 x0 hx0 x0 hx0).choose_spec).1 args W) hL hH hblk (by omega) hT
    rw [hd] at hcall
    rw [hv0, e1, hn]
    refine hcall.mono ?_
    rintro e' w' ⟨rfl, n, os, rfl⟩
    have hres : (d.toList.mergeSort fun x y => !(ltOf cf) y x).map Subtype.val = r := by
      rw [← h, List.map_mergeSort (s := fun x y => !ltO cmp y x) (fun x _ y _ => by rw [hlt])]
      simp [d]
    generalize hd' : (d.toList.mergeSort fun x y => !(ltOf cf) y x) = ds at hres
    have hdl : ds.length = l.length := by
      rw [← hd', List.length_mergeSort, Array.length_toList, hd]
    refine hback (d' := r) ?_ rfl
    refine hs.rowTurn hlk ?_ ?_ ?_
    · rw [e1]
      refine ⟨rfl, rfl, rfl, by simp [sortWorld], fun k hk hne => ?_⟩
      exact hW n os ds.toArray k hk (fun e' => hne (by rw [e']; rfl))
    · simp [sortWorld, grow, putRow, mapBlock, Sort.ahead]
    · intro S' hS'
      have hrl : r.length = l.length := by rw [← hres, List.length_map, hdl]
      have hcells : (sortWorld enc w b 0 n ds.toArray os).heap[b]? = some (.cells (putCells enc 0 ds.toArray cur) e) := by
        unfold sortWorld
        rw [heap_grow_old _ _ (by simpa using hblk)]
        simp [putRow, mapBlock, Array.getElem?_modify, hb, onCells]
      refine ⟨Nat.one_pos, fun cs hcs => ?_, r.map (Value.int .i64), ⟨by simp, .inr ⟨b, cap, _, by rw [e1]; simp [hrl], Nat.zero_le _, hcells, by simpa [hrl] using hnc, hcm, by simp [putCells, hcs], ?_⟩⟩, fun i cs j t h1 h2 => ?_⟩
      · obtain ⟨x, _, rfl⟩ := List.mem_map.1 hcs; rfl
      · apply List.ext_getElem?
        intro k
        rw [List.getElem?_take]
        simp only [List.length_map, Nat.mul_one, hrl]
        by_cases hk : k < l.length
        · rw [if_pos hk]
          have hkd : k < ds.length := by omega
          have hkc : k < cur.size := by rw [hcs]; omega
          simp only [putCells, Array.toList_mapIdx, List.getElem?_mapIdx, Array.getElem?_toList]
          rw [Array.getElem?_eq_getElem hkc]
          simp only [Option.map_some, Nat.zero_le, Nat.zero_add, List.size_toArray, hkd, and_self, if_true, Nat.sub_zero]
          rw [← hres]
          simp [enc, hkd]
        · rw [if_neg hk, List.getElem?_eq_none (by simp [hrl]; omega)]
      · rw [List.getElem?_map] at h1
        cases hi : r[i]? with
        | none => rw [hi] at h1; cases h1
        | some x =>
          rw [hi] at h1
          simp only [Option.map_some, Option.some.injEq] at h1
          subst h1
          match j with
          | 0 =>
            simp only [eI, List.getElem?_cons_zero, Option.some.injEq] at h2
            subst h2
            exact ⟨_, by rw [Nat.mul_one, Nat.add_zero, List.getElem?_map, hi]; rfl, .v rfl⟩
          | j + 1 => simp [eI] at h2
end Go.PM
