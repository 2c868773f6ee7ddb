/- A part of a layer between the model's runs and plain values: steps of code simulate plain functions; no program is named here. -/
import Derived.Test.YtidgbllladaahaaPmO
import Derived.IntWalk
set_option linter.all false
namespace Go.PM
open Go Go.RowKit

section
variable {P : Program} {N : Nat} {o : Oper}
/-! ### The head of a row; what lies behind a place; zeroing -/
theorem run_sl_h {t e : TypeId} {i : TypeInfo} (ht : P.underlying t = some (.slice e)) (hi : P.info? e = some i) {w : World} (A : Option Addr) (n c : Nat) {k : IntKind} {h : Int} (h0 : 0 ≤ h) (h1 : h ≤ c) :
    (Instr.sliceAt t (.slice A n c) none (some (.int k h)) none).run P w = .ok (sliced A 0 h.toNat c i.size) w := by
  have hu : P.underlying t = some (.slice (P.elem t)) := by rw [elem_of ht]; exact ht
  rw [run_sliceAt_slice _ _ _ _ _ _ hu, run_slice_h _ _ _ _ _ hu _ _ h0 h1, elem_of ht, run_sizeOf' hi]
  rfl
theorem run_sl_l {t e : TypeId} {i : TypeInfo} (ht : P.underlying t = some (.slice e)) (hi : P.info? e = some i) {w : World} (A : Option Addr) (n c : Nat) {k : IntKind} {l : Int} (h0 : 0 ≤ l) (h1 : l ≤ n) :
    (Instr.sliceAt t (.slice A n c) (some (.int k l)) none none).run P w = .ok (sliced A l.toNat n c i.size) w := by
  have hu : P.underlying t = some (.slice (P.elem t)) := by rw [elem_of ht]; exact ht
  rw [run_sliceAt_slice _ _ _ _ _ _ hu, run_slice_l _ _ _ _ _ hu _ _ h0 h1, elem_of ht, run_sizeOf' hi]
  rfl
theorem ownsRow_take {w : World} {e sz : Nat} {v : Value} {n h : Nat} {xs : List Value} (ho : w.ownsRow 0 e sz v n xs) (hh : h ≤ n) : ∃ v', (v = .slice none 0 0 ∧ v' = .slice none 0 0 ∨ ∃ g cap, v = .slice (some ⟨g, 0, none⟩) n cap ∧ v' = .slice (some ⟨g, 0, none⟩) h cap ∧ n ≤ cap) ∧ v'.ownBlock = v.ownBlock ∧ w.ownsRow 0 e sz v' h (xs.take (h * sz)) := by
  have hl : (xs.take (h * sz)).length = h * sz := by
    rw [List.length_take, ho.1]
    exact Nat.min_eq_left (Nat.mul_le_mul_right _ hh)
  rcases ho.2 with ⟨rfl, rfl⟩ | ⟨g, cap, cur, rfl, hb, hg, hnc, hcm, hcs, ht⟩
  · obtain rfl : h = 0 := by omega
    exact ⟨_, .inl ⟨rfl, rfl⟩, rfl, hl, .inl ⟨rfl, rfl⟩⟩
  · refine ⟨.slice (some ⟨g, 0, none⟩) h cap, .inr ⟨g, cap, rfl, rfl, hnc⟩, rfl, hl, .inr ⟨g, cap, cur, rfl, hb, hg, by omega, hcm, hcs, ?_⟩⟩
    rw [← ht, List.take_take, Nat.min_eq_left (Nat.mul_le_mul_right _ hh)]

theorem c_takeRow {d : Nat} {x hi : Operand} {t e : TypeId} {m sz : Nat} {es : List (List T)} {i : TypeInfo} {k : IntKind} {h : Int} {rx rh : List (Loc × Val)}
    (hh : 0 ≤ h ∧ h ≤ es.length) (hmd : m ≠ d) (ho : o.op = .slice t x none (some hi) none) (hd : o.dst = some d) (hN : d < N)
    (ht : P.underlying t = some (.slice e)) (hi' : P.info? e = some i) (hx : EvR x (.one (.row m)) rx) (hhi : EvR hi (.one (.t (.v (.int k h)))) rh) :
    LCore P N o (rx ++ rh ++ [(.row m, .r e sz es)]) [(.tmp d, .m (.one (.row d))), (.row d, .r e sz (es.take h.toNat)), (.row m, .gone)] [d] := by
  rintro E σ rfl hr hf K Q a w ⟨τ, hsim⟩ hk
  obtain ⟨hr1, hr2⟩ := agree_append.1 hr
  have hv : a.eval x = τ.ν m := (hx E τ σ a w (agree_append.1 hr1).1 hsim).1
  have hhv := hhi.val (agree_append.1 hr1).2 hsim
  have hrow := hsim.get (.row m)
  rw [hr2.1] at hrow
  obtain ⟨hκ, hρ, h0, hes, xs, hown, hrep⟩ := hrow
  have hle : h.toNat ≤ es.length := by omega
  obtain ⟨v', hform, hob, hown'⟩ := ownsRow_take hown hle
  refine wp_value (v := v') (w' := w) ?_ ?_
  · simp only [execOp, ho, Option.map_some, Option.map_none, hv, hhv]
    refine run_value (fun x => Next.value x) ?_
    rcases hform with ⟨e1, e2⟩ | ⟨g, cap, e1, e2, hnc⟩
    · have hn : es.length = 0 := by
        rcases hown.2 with ⟨_, h⟩ | ⟨_, _, _, h, _⟩
        · exact h
        · rw [e1] at h; cases h
      have hh0 : h = 0 := by omega
      subst hh0
      rw [e1, e2, run_sl_h ht hi' _ _ _ (Int.le_refl 0) (by simp)]
      rfl
    · rw [e1, e2, run_sl_h ht hi' _ _ _ hh.1 (by omega)]
      simp [sliced, Addr.add]
  · rw [hd]
    have hrow' : ∀ S', (∀ k, k < w.heap.size → (E.S τ) k → S' k ∧ w.heap[k]? = w.heap[k]?) → RowOk w S' v' e sz (es.take h.toNat) := fun S' hS => by
      refine ⟨h0, fun cs hcs => hes cs (List.mem_of_mem_take hcs), _, by rw [List.length_take, Nat.min_eq_left hle]; exact hown', fun i cs j t h1 h2 => ?_⟩
      rw [List.getElem?_take] at h1
      split at h1
      · rename_i hlt
        obtain ⟨u, hu, ht⟩ := hrep i cs j t h1 h2
        refine ⟨u, ?_, ht.step hS⟩
        have hj : j < sz := by rw [← hes cs (List.mem_of_getElem? h1)]; exact (List.getElem?_eq_some_iff.1 h2).1
        have : i * sz + j < h.toNat * sz := by
          have := Nat.mul_le_mul_right sz (show i + 1 ≤ h.toNat by omega)
          rw [Nat.add_mul] at this
          omega
        rw [List.getElem?_take, if_pos this]
        exact hu
      · cases h1
    have hblk : ∀ k, v'.ownBlock = some k → k < w.heap.size ∧ (v'.ownBlock = (τ.ν m).ownBlock ∨ w.heap.size ≤ k) := fun k hk => ⟨(hown'.lt k hk).2, .inl hob⟩
    obtain ⟨τ', h1, h2⟩ := hsim.newRow (d := d) (Nat.lt_of_lt_of_le hN hsim.lim) (hf d (by simp)) (m := m) (b := (τ.ν m).ownBlock) (w' := w) (.inr ⟨hρ, hmd, hκ⟩) (World.grownBy.refl w _) (Nat.le_refl _) hblk hrow'
    have h3 := h1.put (x := .one (.row d)) hN (v := v') ⟨h2.symm, by
      rcases hown'.2 with ⟨h, _⟩ | ⟨_, _, _, h, _⟩ <;> rw [h] <;> rfl⟩
    refine hk _ _ ⟨τ', h3.less fun l => ?_⟩
    simp only [List.cons_append, List.nil_append, look_cons]
    by_cases e1 : Loc.tmp d = l
    · simp [e1]
    · by_cases e2 : Loc.row d = l
      · simp [e1, e2]
      · by_cases e3 : Loc.row m = l
        · simp [e1, e2, e3]
        · right
          rw [if_neg e1, if_neg e2, if_neg e3, if_neg e1, if_neg e2]
          split
          · rw [look_cons, if_neg e3]
          · rfl

theorem c_segRow {d : Nat} {x lo : Operand} {t e : TypeId} {m sz : Nat} {es : List (List T)} {i : TypeInfo} {k : IntKind} {l : Int} {rx rl : List (Loc × Val)}
    (hl : 0 ≤ l ∧ l ≤ es.length) (ho : o.op = .slice t x (some lo) none none) (hd : o.dst = some d) (hN : d < N)
    (ht : P.underlying t = some (.slice e)) (hi' : P.info? e = some i) (hsz : i.size = sz) (hx : EvR x (.one (.row m)) rx) (hlo : EvR lo (.one (.t (.v (.int k l)))) rl) :
    LCore P N o (rx ++ rl ++ [(.row m, .r e sz es)]) [(.tmp d, .m (.one (.seg m sz l.toNat (es.length - l.toNat))))] [] :=
  c_pure hd hN fun E τ σ a w hr hsim => by
    obtain ⟨hr1, hr2⟩ := agree_append.1 hr
    have hv : a.eval x = τ.ν m := (hx E τ σ a w (agree_append.1 hr1).1 hsim).1
    have hlv := hlo.val (agree_append.1 hr1).2 hsim
    have hrow := hsim.get (.row m)
    rw [hr2.1] at hrow
    obtain ⟨hκ, hρ, h0, hes, xs, hown, hrep⟩ := hrow
    rcases hown.2 with ⟨e1, hn⟩ | ⟨g, cap, cur, e1, _, _, hnc, _⟩
    · have hl0 : l = 0 := by omega
      subst hl0
      refine ⟨.slice none 0 0, ?_, .inl ⟨by omega, none, 0, rfl⟩⟩
      simp only [execOp, ho, Option.map_some, Option.map_none, hv, hlv, e1]
      refine run_value (fun x => Next.value x) ?_
      rw [run_sl_l ht hi' _ _ _ hl.1 (by omega)]
      rfl
    · by_cases hcl : cap = l.toNat
      · refine ⟨.slice (some ⟨g, 0, none⟩) (es.length - l.toNat) (cap - l.toNat), ?_, .inl ⟨by omega, some ⟨g, 0, none⟩, cap - l.toNat, by
          have : es.length - l.toNat = 0 := by omega
          rw [this]⟩⟩
        simp only [execOp, ho, Option.map_some, Option.map_none, hv, hlv, e1]
        refine run_value (fun x => Next.value x) ?_
        rw [run_sl_l ht hi' _ _ _ hl.1 hl.2]
        simp [sliced, hcl]
      · refine ⟨.slice (some ⟨g, l.toNat * sz, none⟩) (es.length - l.toNat) (cap - l.toNat), ?_, .inr ⟨g, _, by rw [e1]; rfl, rfl⟩⟩
        simp only [execOp, ho, Option.map_some, Option.map_none, hv, hlv, e1]
        refine run_value (fun x => Next.value x) ?_
        have hadd : (⟨g, 0, none⟩ : Addr).add (l.toNat * i.size) = ⟨g, l.toNat * sz, none⟩ := by
          rw [hsz]; unfold Addr.add; split <;> simp_all
        rw [run_sl_l ht hi' _ _ _ hl.1 hl.2]
        simp [sliced, hcl, hadd]

theorem c_capNil {d : Nat} {x : Operand} {t e : TypeId} {rx : List (Loc × Val)} (ho : o.op = .call { callee := .builtin .cap, args := #[x], argTypes := #[t] }) (hd : o.dst = some d) (hN : d < N)
    (ht : P.underlying t = some (.slice e)) (hx : EvR x (.one (.t (.v (.slice none 0 0)))) rx) : LCore P N o rx [(.tmp d, .m (.one (.t (.v (.int .i64 0)))))] [] :=
  c_pure hd hN fun E τ σ a w hr hsim => by
    have hv := hx.val hr hsim
    refine ⟨_, run_call_builtin ho ?_, RepT.v (x := .int .i64 0) rfl⟩
    simp [builtin, hv, Builtin.cap_, run_underlying ht, goInt]

theorem c_sliceNil {d : Nat} {x hi : Operand} {t e : TypeId} {i : TypeInfo} {k : IntKind} {rx rh : List (Loc × Val)} (ho : o.op = .slice t x none (some hi) none) (hd : o.dst = some d) (hN : d < N)
    (ht : P.underlying t = some (.slice e)) (hi' : P.info? e = some i) (hx : EvR x (.one (.t (.v (.slice none 0 0)))) rx) (hhi : EvR hi (.one (.t (.v (.int k 0)))) rh) : LCore P N o (rx ++ rh) [(.tmp d, .m (.one (.t (.v (.slice none 0 0)))))] [] :=
  c_pure hd hN fun E τ σ a w hr hsim => by
    obtain ⟨hr1, hr2⟩ := agree_append.1 hr
    have hv := hx.val hr1 hsim
    have hhv := hhi.val hr2 hsim
    refine ⟨.slice none 0 0, ?_, RepT.v (x := .slice none 0 0) rfl⟩
    simp only [execOp, ho, Option.map_some, Option.map_none, hv, hhv]
    refine run_value (fun x => Next.value x) ?_
    rw [run_sl_h ht hi' _ _ _ (Int.le_refl 0) (by simp)]
    rfl

/-- What a store of cells leaves of a row. -/
theorem zero_cells {z : Value} {w : World} {S : Nat → Prop} {n : Nat} (hz : z.cells.toList.all plain = true) (h0 : 0 < z.cells.size) : ∀ (k j : Nat), k < n → j < z.cells.size → ∃ u, (Builtin.zeroCells z.cells n)[k * z.cells.size + j]? = some u ∧ ∃ t, (z.cells.toList.map T.v)[j]? = some t ∧ RepT w S t u := fun k j hk hj => by
  have hlt : k * z.cells.size + j < n * z.cells.size := by
    have := Nat.mul_le_mul_right z.cells.size (show k + 1 ≤ n by omega)
    rw [Nat.add_mul] at this
    omega
  have hmod := (idx_div (i := k) hj).2
  refine ⟨z.cells[j], ?_, .v z.cells[j], by simp [hj], .v (List.all_eq_true.1 hz _ (by simp))⟩
  simp only [Builtin.zeroCells, Array.getElem?_map]
  rw [Array.getElem?_range, if_pos hlt]
  simp [hmod, hj]

/-- A row's own block turns; its header stays. -/
theorem SimAt.rowTurn {E : Env} {τ : Tie} {σ : St} {a : Act} {w w' : World} (h : SimAt E τ σ a w) {n e sz : Nat} {es es' : List (List T)} (hn : look σ (.row n) = .r e sz es) (hg : w.grownBy w' (τ.ν n).ownBlock) (hdr : w.drawn ≤ w'.drawn)
    (hrow : ∀ S', (∀ k, k < w.heap.size → (E.S τ) k → S' k ∧ w'.heap[k]? = w.heap[k]?) → RowOk w' S' (τ.ν n) e sz es') : SimAt E τ ((.row n, .r e sz es') :: σ) a w' := by
  have hr := h.get (.row n)
  rw [hn] at hr
  obtain ⟨hκ, hρ, _⟩ := hr
  refine h.move hg.os hg.tape ⟨hg.output, hdr⟩ hg.size (fun k hk hne => hg.block k hk (fun e => hne n (by rw [← hρ, ← e]))) h.inj (fun m k hm => Nat.lt_of_lt_of_le (h.acc m k hm).1 hg.size) (fun m k hm _ => ⟨m, hm⟩) (.refl _) ?_
  intro hs l
  rw [look_cons]
  by_cases e1 : Loc.row n = l
  · subst e1
    rw [if_pos rfl]
    exact ⟨hκ, hρ, hrow _ hs⟩
  · rw [if_neg e1]
    by_cases e2 : n ∈ l.names
    · rw [(h.get l).rowOnly hκ e2 (fun e' => e1 e'.symm)]
      cases l <;> exact trivial
    · refine (h.get l).step hs (fun _ _ => ⟨rfl, rfl⟩) (fun m hm => ⟨rfl, rfl, rfl, rfl, fun k hk => hg.block k (h.acc m k hk).1 (fun e => ?_)⟩)
      have : m = n := h.inj m n k hk (by rw [← hρ, ← e])
      exact e2 (this ▸ hm)

/-- clear, of what lies behind a place of a row. -/
theorem c_clearSeg {x : Operand} {t e : TypeId} {m sz l k : Nat} {es : List (List T)} {i : TypeInfo} {z : Value} {zs : List T} {rx : List (Loc × Val)}
    (hk : l + k = es.length) (ho : o.op = .call { callee := .builtin .clear, args := #[x], argTypes := #[t] }) (hd : o.dst = none)
    (ht : P.underlying t = some (.slice e)) (hi : P.info? e = some i) (hz : i.zero = some z) (hzp : z.cells.toList.all plain = true) (hzs : z.cells.size = sz) (hzt : zs = z.cells.toList.map T.v)
    (hx : EvR x (.one (.seg m sz l k)) rx) :
    LCore P N o (rx ++ [(.row m, .r e sz es)]) [(.row m, .r e sz (es.take l ++ List.replicate k zs))] [] := by
  subst hzs hzt
  rintro E σ rfl hr hf K Q a w ⟨τ, hsim⟩ hK
  obtain ⟨hr1, hr2⟩ := agree_append.1 hr
  have hv := hx E τ σ a w hr1 hsim
  have hrow := hsim.get (.row m)
  rw [hr2.1] at hrow
  have hrow0 := hrow
  obtain ⟨hκ, hρ, h0, hes, xs, hown, hrep⟩ := hrow
  by_cases hk0 : k = 0
  · subst hk0
    have hseg : ∃ A c, a.eval x = .slice A 0 c := by
      rcases hv with ⟨_, h⟩ | ⟨b, c, _, h⟩
      · exact h
      · exact ⟨_, c, h⟩
    obtain ⟨A, c, he⟩ := hseg
    refine wp_value (v := .tuple #[]) (w' := w) (run_call_builtin ho ?_) ?_
    · cases A <;> simp [builtin, he, Builtin.clear_, run_underlying ht]
    · rw [hd]
      refine hK _ _ ⟨τ, ?_⟩
      have : es.take l ++ List.replicate 0 (z.cells.toList.map T.v) = es := by
        rw [List.replicate_zero, List.append_nil, List.take_of_length_le (by omega)]
      rw [this]
      exact hsim.relabel hr2.1 fun h => h
  · rcases hv with ⟨h, _⟩ | ⟨b, c, hb, he⟩
    · exact absurd h hk0
    · rcases hown.2 with ⟨e1, _⟩ | ⟨g, cap, cur, e1, hg0, hg, hnc, hcm, hcs, htk⟩
      · rw [e1] at hb; cases hb
      · obtain rfl : g = b := by rw [e1] at hb; simpa [Value.ownBlock] using hb
        have hzl : (Builtin.zeroCells z.cells k).toList.length = k * z.cells.size := by simp [Builtin.zeroCells]
        have hone : ∀ v ∈ (Builtin.zeroCells z.cells k).toList, v.oneCell' = true := fun v hv => by
          simp only [Builtin.zeroCells, Array.toList_map, Array.toList_range, List.mem_map, List.mem_range] at hv
          obtain ⟨q, hq, rfl⟩ := hv
          have hlt : q % z.cells.size < z.cells.size := Nat.mod_lt _ h0
          rw [getElem!_pos z.cells _ hlt]
          exact (RepT.v (w := w) (S := fun _ => True) (List.all_eq_true.1 hzp _ (by simp))).one
        have hst := run_storeCells_at P g (l * z.cells.size) e (Builtin.zeroCells z.cells k).toList 0 cur w hg (by
          rw [hzl, hcs, Nat.add_zero, ← Nat.add_mul]; exact Nat.mul_le_mul_right _ (by omega)) hone
        refine wp_value (v := .tuple #[]) (w' := w.setRow g (cur.toList.take (l * z.cells.size + 0) ++ (Builtin.zeroCells z.cells k).toList ++ cur.toList.drop (l * z.cells.size + 0 + (Builtin.zeroCells z.cells k).toList.length)).toArray) (run_call_builtin ho ?_) ?_
        · obtain ⟨k', rfl⟩ : ∃ k', k = k' + 1 := ⟨k - 1, by omega⟩
          simp [builtin, he, Builtin.clear_, run_underlying ht, zeroValue, typeInfo, hi, hz, hst]
        · rw [hd]
          have hxl : xs.length = es.length * z.cells.size := hown.1
          have hle : l * z.cells.size ≤ es.length * z.cells.size := Nat.mul_le_mul_right _ (by omega)
          have hes' : es.length * z.cells.size = l * z.cells.size + k * z.cells.size := by rw [← hk, Nat.add_mul]
          have hcap : es.length * z.cells.size ≤ cur.size := by rw [hcs]; exact Nat.mul_le_mul_right _ hnc
          refine hK _ _ ⟨τ, hsim.rowTurn hr2.1 (by rw [hb]; exact ⟨rfl, rfl, rfl, by simp [World.setRow], fun q _ hq => setRow_other w g q _ (fun e => hq (by rw [e]))⟩) (Nat.le_refl _) fun S' hS' => ?_⟩
          have hlen : (es.take l ++ List.replicate k (z.cells.toList.map T.v)).length = es.length := by
            rw [List.length_append, List.length_take, List.length_replicate, Nat.min_eq_left (by omega)]; omega
          refine ⟨h0, fun cs hcs => ?_, xs.take (l * z.cells.size) ++ (Builtin.zeroCells z.cells k).toList, ?_, fun q cs j t h1 h2 => ?_⟩
          · rcases List.mem_append.1 hcs with hm | hm
            · exact hes cs (List.mem_of_mem_take hm)
            · rw [(List.mem_replicate.1 hm).2]; simp
          · rw [hlen]
            have htl : (cur.toList.take (l * z.cells.size)).length = l * z.cells.size := by rw [List.length_take, Array.length_toList]; exact Nat.min_eq_left (by omega)
            refine ⟨by rw [List.length_append, List.length_take, hzl]; omega, .inr ⟨g, cap, _, e1, hg0, setRow_heap w g cur _ e _ hg, hnc, hcm, ?_, ?_⟩⟩
            · simp only [Nat.add_zero, List.size_toArray, List.length_append, htl, hzl, List.length_drop, Array.length_toList]
              omega
            · simp only [Nat.add_zero]
              rw [hes', ← htk, List.take_take, Nat.min_eq_left hle, List.take_append_of_le_length (by rw [List.length_append, htl, hzl]; exact Nat.le_refl _)]
              exact List.take_of_length_le (by rw [List.length_append, htl, hzl]; exact Nat.le_refl _)
          · have hxt : (xs.take (l * z.cells.size)).length = l * z.cells.size := by rw [List.length_take]; omega
            have hj : j < z.cells.size := by
              have : cs.length = z.cells.size := by
                rcases List.mem_append.1 (List.mem_of_getElem? h1) with hm | hm
                · exact hes cs (List.mem_of_mem_take hm)
                · rw [(List.mem_replicate.1 hm).2]; simp
              rw [← this]; exact (List.getElem?_eq_some_iff.1 h2).1
            have htl : (es.take l).length = l := by rw [List.length_take]; omega
            by_cases hq : q < l
            · rw [List.getElem?_append_left (by omega), List.getElem?_take, if_pos hq] at h1
              obtain ⟨u, hu, hr⟩ := hrep q cs j t h1 h2
              have hlt : q * z.cells.size + j < l * z.cells.size := by
                have := Nat.mul_le_mul_right z.cells.size (show q + 1 ≤ l by omega)
                rw [Nat.add_mul] at this
                omega
              exact ⟨u, by rw [List.getElem?_append_left (by omega), List.getElem?_take, if_pos hlt]; exact hu, hr.step hS'⟩
            · rw [List.getElem?_append_right (by omega), htl] at h1
              have hqk : q - l < k := by simpa using (List.getElem?_eq_some_iff.1 h1).1
              rw [List.getElem?_replicate, if_pos hqk] at h1
              injection h1 with h1
              subst h1
              obtain ⟨u, hu, t', ht', hr⟩ := zero_cells (z := z) (w := w.setRow g (cur.toList.take (l * z.cells.size + 0) ++ (Builtin.zeroCells z.cells k).toList ++ cur.toList.drop (l * z.cells.size + 0 + (Builtin.zeroCells z.cells k).toList.length)).toArray) (S := S') hzp h0 (q - l) j hqk hj
              rw [h2] at ht'
              injection ht' with ht'
              subst ht'
              refine ⟨u, ?_, hr⟩
              have hge : l * z.cells.size ≤ q * z.cells.size := Nat.mul_le_mul_right _ (by omega)
              rw [List.getElem?_append_right (by omega), hxt]
              have : q * z.cells.size + j - l * z.cells.size = (q - l) * z.cells.size + j := by rw [Nat.sub_mul]; omega
              rw [this]
              simpa using hu

/-! ### Rows of zeros -/
theorem run_append_make {t u ty e : TypeId} {i : TypeInfo} {z : Value} {k : IntKind} {w : World} (ht : P.underlying t = some (.slice e)) (hu : P.underlying u = some (.int k)) (hi : P.info? e = some i) (hz : i.zero = some z) {n : Int} (h0 : 0 < n) (h63 : n ≤ 9223372036854775807) (h48 : n * i.bytes ≤ 140737488355328) (h00 : i.size ≠ 0) :
    (Builtin.append_ #[t, u] ty #[.slice none 0 0, .int .i64 n]).run P w =
      .ok (.slice (some ⟨w.heap.size, 0, none⟩) n.toNat (grownCap w n.toNat 0 e)) (w.drew.alloc (.cells (Builtin.zeroCells z.cells n.toNat ++ Builtin.zeroCells z.cells (grownCap w n.toNat 0 e - n.toNat)) e)) := by
  obtain ⟨m, rfl⟩ : ∃ m : Nat, n = m := ⟨n.toNat, by omega⟩
  have hn : m ≠ 0 := by omega
  have hw : IntKind.i64.wrap (m : Int) = m := IntWalk.i64_in (m : Int) (by omega)
  have h1 : ¬ ((m : Int) < 0) := by omega
  have h2 : ¬ (281474976710656 < (m : Int) * i.bytes) := by omega
  have h63' : ¬ (9223372036854775807 < (m : Int)) := by omega
  have hb : m * i.bytes ≤ 140737488355328 := by
    have : ((m * i.bytes : Nat) : Int) ≤ 140737488355328 := by rw [Int.natCast_mul]; exact h48
    omega
  have h48' : ¬ (281474976710656 < Builtin.nextslicecap m 0 * i.bytes) := by rw [nextslicecap_zero (by omega)]; omega
  simp [Builtin.append_, run_underlying ht, run_underlying hu, sizeOf, typeInfo, zeroValue, hi, hz, asInt, asIntOf, hw, h1, h2, hn, h00, h63', h48', Question.forced, run_firstCells_none, newRow, grownCap, Nat.mul_eq_zero]

theorem zeros_row {e sz bytes : Nat} {i : TypeInfo} {z : Value} {w : World} {S : Nat → Prop} {n cap b : Nat} {cur : Array Value} (hb : w.heap[b]? = some (.cells cur e)) (hzs : z.cells.size = sz) (h0 : 0 < sz) (hzp : z.cells.toList.all plain = true) (hn : n ≤ cap) (hm : cap ≤ maxLen) (hc : cur.size = cap * sz)
    (ht : cur.toList.take (n * sz) = (Builtin.zeroCells z.cells n).toList) : RowOk w S (.slice (some ⟨b, 0, none⟩) n cap) e sz (List.replicate n (z.cells.toList.map T.v)) := by
  subst hzs
  refine ⟨h0, fun cs hcs => by rw [(List.mem_replicate.1 hcs).2]; simp, (Builtin.zeroCells z.cells n).toList, ⟨by simp [Builtin.zeroCells], .inr ⟨b, cap, cur, by simp, Nat.zero_le _, hb, by simpa using hn, hm, hc, by simpa using ht⟩⟩, fun q cs j t h1 h2 => ?_⟩
  have hq : q < n := by simpa using (List.getElem?_eq_some_iff.1 h1).1
  rw [List.getElem?_replicate, if_pos hq] at h1
  injection h1 with h1
  subst h1
  have hj : j < z.cells.size := by simpa using (List.getElem?_eq_some_iff.1 h2).1
  obtain ⟨u, hu, t', ht', hr⟩ := zero_cells (z := z) (w := w) (S := S) (n := n) hzp h0 q j hq hj
  rw [h2] at ht'
  injection ht' with ht'
  subst ht'
  exact ⟨u, by simpa using hu, hr⟩

theorem c_appendMake {d : Nat} {s x : Operand} {t u e : TypeId} {sz : Nat} {i : TypeInfo} {z : Value} {zs : List T} {k : IntKind} {n : Int} {rs rx : List (Loc × Val)} (hn : 0 < n ∧ n ≤ 1000000000) (hb : i.bytes ≤ 140000)
    (ho : o.op = .call { callee := .builtin .append, args := #[s, x], argTypes := #[t, u] }) (hd : o.dst = some d) (hN : d < N)
    (ht : P.underlying t = some (.slice e)) (hu : P.underlying u = some (.int k)) (hi : P.info? e = some i) (hz : i.zero = some z) (hsize : i.size = sz) (hzs : z.cells.size = sz) (h0 : 0 < sz) (hzp : z.cells.toList.all plain = true) (hzt : zs = z.cells.toList.map T.v)
    (hs : EvR s (.one (.t (.v (.slice none 0 0)))) rs) (hx : EvR x (.one (.t (.v (.int .i64 n)))) rx) :
    LCore P N o (rs ++ rx) [(.tmp d, .m (.one (.row d))), (.row d, .r e sz (List.replicate n.toNat zs))] [d] := by
  subst hzt
  rintro E σ rfl hr hf K Q a w ⟨τ, hsim⟩ hk
  obtain ⟨hr1, hr2⟩ := agree_append.1 hr
  have hv : a.eval s = .slice none 0 0 := hs.val hr1 hsim
  have hxv := hx.val hr2 hsim
  have h48 : n * (i.bytes : Int) ≤ 140737488355328 := by
    have h1 : n * (i.bytes : Int) ≤ 1000000000 * 140000 := Int.mul_le_mul hn.2 (by omega) (by omega) (by omega)
    omega
  have hrun := run_append_make (P := P) (w := w) (ty := o.type) ht hu hi hz hn.1 (by omega) h48 (by omega)
  have hcm : grownCap w n.toNat 0 e ≤ maxLen := grownCap_le_maxLen w n.toNat 0 e (by simp only [maxLen]; omega)
  have hge := grownCap_ge w n.toNat 0 e
  refine wp_value (run_call_builtin ho (v := .slice (some ⟨w.heap.size, 0, none⟩) n.toNat (grownCap w n.toNat 0 e)) (w' := w.drew.alloc (.cells (Builtin.zeroCells z.cells n.toNat ++ Builtin.zeroCells z.cells (grownCap w n.toNat 0 e - n.toNat)) e)) (by
    simp only [builtin, List.map_toArray, List.map_cons, List.map_nil, hv, hxv, Sem.run_bind, hrun, Result.andThen_ok, Sem.run_pure])) ?_
  rw [hd]
  have hrow : ∀ S', RowOk (w.drew.alloc (.cells (Builtin.zeroCells z.cells n.toNat ++ Builtin.zeroCells z.cells (grownCap w n.toNat 0 e - n.toNat)) e)) S' (.slice (some ⟨w.heap.size, 0, none⟩) n.toNat (grownCap w n.toNat 0 e)) e sz (List.replicate n.toNat (z.cells.toList.map T.v)) := fun S' => by
    refine zeros_row (i := i) (bytes := 0) (heap_alloc_new w.drew _) hzs h0 hzp hge hcm ?_ ?_
    · rw [Array.size_append, size_zeroCells, size_zeroCells, hzs, ← Nat.add_mul]
      congr 1
      omega
    · rw [Array.toList_append]
      have : n.toNat * sz = (Builtin.zeroCells z.cells n.toNat).toList.length := by rw [Array.length_toList, size_zeroCells, hzs]
      rw [this, List.take_left']
      rfl
  obtain ⟨τ', h1, h2⟩ := hsim.newRow (d := d) (Nat.lt_of_lt_of_le hN hsim.lim) (hf d (by simp)) (m := d) (b := none) (.inl rfl) (w' := w.drew.alloc (.cells (Builtin.zeroCells z.cells n.toNat ++ Builtin.zeroCells z.cells (grownCap w n.toNat 0 e - n.toNat)) e)) ⟨rfl, rfl, rfl, by simp, fun k hk _ => Below.heap_alloc w.drew _ k hk⟩ (Nat.le_succ _)
    (v' := .slice (some ⟨w.heap.size, 0, none⟩) n.toNat (grownCap w n.toNat 0 e)) (fun k hk => by
      simp [Value.ownBlock] at hk
      subst hk
      exact ⟨by simp, .inr (Nat.le_refl _)⟩) (fun S' _ => hrow S')
  have h3 := h1.put (x := .one (.row d)) hN (v := .slice (some ⟨w.heap.size, 0, none⟩) n.toNat (grownCap w n.toNat 0 e)) ⟨h2.symm, rfl⟩
  exact hk _ _ ⟨τ', h3⟩

/-- make, of a slice. -/
theorem c_makeSlice {d : Nat} {x y : Operand} {t e : TypeId} {sz : Nat} {i : TypeInfo} {z : Value} {zs : List T} {k k' : IntKind} {n : Int} {rx ry : List (Loc × Val)} (hn : 0 ≤ n ∧ n ≤ 1000000000) (hb : i.bytes ≤ 140000)
    (ho : o.op = .makeSlice t x y) (hd : o.dst = some d) (hN : d < N)
    (ht : P.underlying t = some (.slice e)) (hi : P.info? e = some i) (hz : i.zero = some z) (hsize : i.size = sz) (hzs : z.cells.size = sz) (h0 : 0 < sz) (hzp : z.cells.toList.all plain = true) (hzt : zs = z.cells.toList.map T.v)
    (hx : EvR x (.one (.t (.v (.int k n)))) rx) (hy : EvR y (.one (.t (.v (.int k' n)))) ry) :
    LCore P N o (rx ++ ry) [(.tmp d, .m (.one (.row d))), (.row d, .r e sz (List.replicate n.toNat zs))] [d] := by
  subst hzt hsize
  rintro E σ rfl hr hf K Q a w ⟨τ, hsim⟩ hk
  obtain ⟨hr1, hr2⟩ := agree_append.1 hr
  have hxv := hx.val hr1 hsim
  have hyv := hy.val hr2 hsim
  obtain ⟨m, rfl⟩ : ∃ m : Nat, n = m := ⟨n.toNat, by omega⟩
  have hw : IntKind.i64.wrap (m : Int) = m := IntWalk.i64_in (m : Int) (by omega)
  have h48 : (m : Int) * (i.bytes : Int) ≤ 140737488355328 := by
    have h1 : (m : Int) * (i.bytes : Int) ≤ 1000000000 * 140000 := Int.mul_le_mul hn.2 (by omega) (by omega) (by omega)
    omega
  have h48n : m * i.bytes ≤ 140737488355328 := by
    have : ((m * i.bytes : Nat) : Int) ≤ 140737488355328 := by rw [Int.natCast_mul]; exact h48
    omega
  have h1 : ¬ ((m : Int) < 0) := by omega
  have h2 : ¬ (281474976710656 < (i.bytes : Int) * m) := by rw [Int.mul_comm]; omega
  have hz2 : (Array.range (m * i.size)).map (z.cells[· % z.cells.size]!) = Builtin.zeroCells z.cells m := by simp [Builtin.zeroCells, hzs]
  have hrun : (execOp a.eval o).run P w = .ok (.value (.slice (some ⟨w.heap.size, 0, none⟩) m m)) (w.alloc (.cells (Builtin.zeroCells z.cells m) e)) := by
    simp only [execOp, ho, hxv, hyv]
    refine run_value (fun x => Next.value x) ?_
    have hroom : ¬ (140737488355328 < m * i.bytes) := by omega
    by_cases hm : m = 0
    · subst hm
      simp at hw
      simp [Instr.makeSlice, run_underlying ht, asInt, asIntOf, typeInfo, hi, sizeOf, hw, newRow, askRoom, roomBytes, Builtin.zeroCells, show Array.range 0 = #[] from rfl]
    · have hms : m * i.size ≠ 0 := Nat.mul_ne_zero hm (by omega)
      rw [← hz2]
      simp [Instr.makeSlice, run_underlying ht, asInt, asIntOf, typeInfo, hi, sizeOf, zeroValue, hz, hw, h1, h2, hms, hm, newRow, askRoom, roomBytes, hroom, show ¬ i.size = 0 from by omega]
  refine wp_value hrun ?_
  rw [hd]
  have hrow : ∀ S', RowOk (w.alloc (.cells (Builtin.zeroCells z.cells m) e)) S' (.slice (some ⟨w.heap.size, 0, none⟩) m m) e i.size (List.replicate m (z.cells.toList.map T.v)) := fun S' => by
    refine zeros_row (i := i) (bytes := 0) (heap_alloc_new w _) hzs h0 hzp (Nat.le_refl _) (by simp only [maxLen]; omega) (by rw [size_zeroCells, hzs]) ?_
    rw [List.take_of_length_le]
    rw [Array.length_toList, size_zeroCells, hzs]
    exact Nat.le_refl _
  obtain ⟨τ', h1, h2⟩ := hsim.newRow (d := d) (Nat.lt_of_lt_of_le hN hsim.lim) (hf d (by simp)) (m := d) (b := none) (.inl rfl) (w' := w.alloc (.cells (Builtin.zeroCells z.cells m) e)) ⟨rfl, rfl, rfl, by simp, fun k hk _ => Below.heap_alloc w _ k hk⟩ (Nat.le_refl _)
    (v' := .slice (some ⟨w.heap.size, 0, none⟩) m m) (fun k hk => by
      simp [Value.ownBlock] at hk
      subst hk
      exact ⟨by simp, .inr (Nat.le_refl _)⟩) (fun S' _ => hrow S')
  have h3 := h1.put (x := .one (.row d)) hN (v := .slice (some ⟨w.heap.size, 0, none⟩) m m) ⟨h2.symm, rfl⟩
  exact hk _ _ ⟨τ', h3⟩

/-! ### Typed forms -/
theorem map_replicate {α : Type} {f : α → List T} {n : Nat} {x : α} {zs : List T} (h : zs = f x) : List.replicate n zs = (List.replicate n x).map f := by rw [List.map_replicate, h]

variable {d : Nat} {t e : TypeId} {x y lo hi : Operand} {i : TypeInfo} {α : Type} {l : List α} {f : α → List T} {k kl kh : IntKind} {n h : Int} {rx ry rl rh : List (Loc × Val)}
theorem k_takeRow {v : List α} {m sz : Nat} (hv : take_ l h = some v) (hmd : m ≠ d) (ho : o.op = .slice t x none (some hi) none) (hd : o.dst = some d) (hN : d < N) (ht : P.underlying t = some (.slice e)) (hi' : P.info? e = some i)
    (hx : EvR x (.one (.row m)) rx) (hhi : EvR hi (.one (.t (.v (.int kh h)))) rh) :
    LCore P N o (rx ++ rh ++ [(.row m, .r e sz (l.map f))]) [(.tmp d, .m (.one (.row d))), (.row d, .r e sz (v.map f)), (.row m, .gone)] [d] := by
  obtain ⟨h1, h2⟩ := take_of (f := f) hv
  rw [h2]
  exact c_takeRow h1 hmd ho hd hN ht hi' hx hhi
theorem k_segRow {v : List α} {m sz : Nat} (hv : drop_ l n = some v) (ho : o.op = .slice t x (some lo) none none) (hd : o.dst = some d) (hN : d < N) (ht : P.underlying t = some (.slice e)) (hi' : P.info? e = some i) (hsz : i.size = sz)
    (hx : EvR x (.one (.row m)) rx) (hlo : EvR lo (.one (.t (.v (.int kl n)))) rl) :
    LCore P N o (rx ++ rl ++ [(.row m, .r e sz (l.map f))]) [(.tmp d, .m (.one (.seg m sz n.toNat v.length)))] [] := by
  obtain ⟨h1, h2⟩ := drop_of (f := f) hv
  have : v.length = (l.map f).length - n.toNat := by
    have := congrArg List.length h2
    simpa using this
  rw [this]
  exact c_segRow h1 ho hd hN ht hi' hsz hx hlo
/-- A list whose end is of zeros. -/
def clear_ (l : List α) (n : Nat) (k : Nat) (z : α) : List α := l.take n ++ List.replicate k z
theorem k_clearSeg {m sz : Nat} {zz : α} {v : List α} {z : Value} {zs : List T} (hv : drop_ l n = some v) (ho : o.op = .call { callee := .builtin .clear, args := #[x], argTypes := #[t] }) (hd : o.dst = none)
    (ht : P.underlying t = some (.slice e)) (hi : P.info? e = some i) (hz : i.zero = some z) (hzp : z.cells.toList.all plain = true) (hzs : z.cells.size = sz) (hzt : zs = z.cells.toList.map T.v) (hzz : zs = f zz)
    (hx : EvR x (.one (.seg m sz n.toNat v.length)) rx) :
    LCore P N o (rx ++ [(.row m, .r e sz (l.map f))]) [(.row m, .r e sz ((clear_ l n.toNat v.length zz).map f))] [] := by
  obtain ⟨h1, h2⟩ := drop_of (f := f) hv
  have hl : v.length = (l.map f).length - n.toNat := by
    have := congrArg List.length h2
    simpa using this
  have := c_clearSeg (N := N) (es := l.map f) (show n.toNat + v.length = (l.map f).length by rw [hl]; omega) ho hd ht hi hz hzp hzs hzt hx
  rw [clear_, List.map_append, List.map_take, List.map_replicate, ← hzz]
  exact this
theorem k_appendMake {s : Operand} {u : TypeId} {sz : Nat} {z : Value} {zz : α} {zs : List T} (hn : 0 < n ∧ n ≤ 1000000000) (hb : i.bytes ≤ 140000)
    (ho : o.op = .call { callee := .builtin .append, args := #[s, x], argTypes := #[t, u] }) (hd : o.dst = some d) (hN : d < N)
    (ht : P.underlying t = some (.slice e)) (hu : P.underlying u = some (.int k)) (hi : P.info? e = some i) (hz : i.zero = some z) (hsize : i.size = sz) (hzs : z.cells.size = sz) (h0 : 0 < sz) (hzp : z.cells.toList.all plain = true) (hzt : zs = z.cells.toList.map T.v) (hzz : zs = f zz)
    (hs : EvR s (.one (.t (.v (.slice none 0 0)))) rl) (hx : EvR x (.one (.t (.v (.int .i64 n)))) rx) :
    LCore P N o (rl ++ rx) [(.tmp d, .m (.one (.row d))), (.row d, .r e sz ((List.replicate n.toNat zz).map f))] [d] := by
  rw [← map_replicate hzz]
  exact c_appendMake hn hb ho hd hN ht hu hi hz hsize hzs h0 hzp hzt hs hx
theorem k_makeSlice {sz : Nat} {z : Value} {zz : α} {zs : List T} {k' : IntKind} (hn : 0 ≤ n ∧ n ≤ 1000000000) (hb : i.bytes ≤ 140000)
    (ho : o.op = .makeSlice t x y) (hd : o.dst = some d) (hN : d < N)
    (ht : P.underlying t = some (.slice e)) (hi : P.info? e = some i) (hz : i.zero = some z) (hsize : i.size = sz) (hzs : z.cells.size = sz) (h0 : 0 < sz) (hzp : z.cells.toList.all plain = true) (hzt : zs = z.cells.toList.map T.v) (hzz : zs = f zz)
    (hx : EvR x (.one (.t (.v (.int k n)))) rx) (hy : EvR y (.one (.t (.v (.int k' n)))) ry) :
    LCore P N o (rx ++ ry) [(.tmp d, .m (.one (.row d))), (.row d, .r e sz ((List.replicate n.toNat zz).map f))] [d] := by
  rw [← map_replicate hzz]
  exact c_makeSlice hn hb ho hd hN ht hi hz hsize hzs h0 hzp hzt hx hy
end
abbrev wi64 (n : Int) : Int := IntKind.wrap .i64 n
abbrev wu64 (n : Int) : Int := IntKind.wrap .u64 n
abbrev wu8 (n : Int) : Int := IntKind.wrap .u8 n
abbrev wi32 (n : Int) : Int := IntKind.wrap .i32 n
def fuel : Nat := 1000000000
end Go.PM
