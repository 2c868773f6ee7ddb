/- A part of a layer between the model's runs and plain values: steps of code simulate plain functions; no program is named here. -/
import Derived.Test.YtidgbllladaahaaPmC
set_option linter.all false
namespace Go.PM
open Go Go.RowKit

theorem splice_eq {α : Type} : ∀ (vs cells : List α) (off : Nat), off + vs.length ≤ cells.length → splice cells off vs = cells.take off ++ vs ++ cells.drop (off + vs.length)
  | [], cells, off, h => by simp [splice]
  | v :: r, cells, off, h => by
    simp only [List.length_cons] at h
    rw [splice, splice_eq r _ (off + 1) (by simp; omega)]
    rw [List.take_set, List.drop_set_of_lt (by omega)]
    have h1 : (cells.take (off + 1)).set off v = cells.take off ++ [v] := by
      rw [List.take_succ_eq_append_getElem (by omega), List.set_append_right _ _ (by simp; omega)]
      simp [Nat.min_eq_left (show off ≤ cells.length by omega)]
    rw [h1]
    simp [Nat.add_comm, Nat.add_left_comm]
    try omega

/-- The elements of a slice literal, one part each. -/
inductive EvElems : Nat → List (Nat × Operand) → List (List T) → List (Loc × Val) → Prop
  | nil {k : Nat} : EvElems k [] [] []
  | cons {k : Nat} {x : Operand} {m : M} {cs : List T} {rx rd : List (Loc × Val)} {ps : List (Nat × Operand)} {es : List (List T)} (hx : EvR x m rx) (hm : m.cs = cs.map C.t) (hm' : ∀ ms, m ≠ .tup ms) (h : EvElems (k + 1) ps es rd) : EvElems k ((k, x) :: ps) (cs :: es) (rx ++ rd)

def qsOf : Nat → List (List T) → List (Nat × List C)
  | _, [] => []
  | k, cs :: r => (k, cs.map C.t) :: qsOf (k + 1) r

theorem EvElems.parts {k : Nat} {ps : List (Nat × Operand)} {es : List (List T)} {rd : List (Loc × Val)} (h : EvElems k ps es rd) : EvParts ps (qsOf k es) rd := by
  induction h with
  | nil => exact .nil
  | cons hx hm hm' _ ih =>
    rw [qsOf, ← hm]
    exact .cons hx hm' ih

theorem fillA_elems (sz : Nat) : ∀ (es : List (List T)) (k : Nat) (cells : List C), (∀ cs ∈ es, cs.length = sz) → cells.length = (k + es.length) * sz →
    fillA (fun i => some (i * sz, sz)) cells (qsOf k es) = some (cells.take (k * sz) ++ es.flatten.map C.t)
  | [], k, cells, _, hl => by
    simp only [qsOf, fillA, List.flatten_nil, List.map_nil, List.append_nil]
    rw [List.take_of_length_le (by simp at hl; omega)]
  | cs :: r, k, cells, hs, hl => by
    have h1 : cs.length = sz := hs cs (by simp)
    have hl' : cells.length = (k + 1 + r.length) * sz := by rw [hl, List.length_cons]; congr 1; omega
    have hle : k * sz + sz ≤ cells.length := by
      rw [hl', Nat.add_mul, Nat.add_mul]; omega
    simp only [qsOf, fillA]
    have hc : (Nat.beq (cs.map C.t).length sz && Nat.ble (k * sz + (cs.map C.t).length) cells.length) = true := by
      simp [h1, Nat.ble_eq, hle]
    rw [hc, cond_true, fillA_elems sz r (k + 1) _ (fun c h => hs c (by simp [h])) (by rw [splice_length]; exact hl')]
    rw [splice_eq _ _ _ (by simp [h1]; exact hle)]
    congr 1
    simp only [List.flatten_cons, List.map_append, List.length_map, h1]
    rw [List.take_append_of_le_length (by simp; rw [Nat.min_eq_left (by omega), h1, Nat.add_mul]; omega)]
    rw [List.take_of_length_le (by simp; rw [Nat.min_eq_left (by omega), h1, Nat.add_mul]; omega)]
    simp

theorem getElem?_flatten {α : Type} {sz : Nat} : ∀ (es : List (List α)), (∀ cs ∈ es, cs.length = sz) → ∀ (i j : Nat) (cs : List α) (t : α), es[i]? = some cs → cs[j]? = some t → es.flatten[i * sz + j]? = some t
  | [], _, _, _, _, _, h, _ => by simp at h
  | c :: r, hs, i, j, cs, t, h1, h2 => by
    have hl : c.length = sz := hs c (by simp)
    cases i with
    | zero =>
      simp only [List.getElem?_cons_zero, Option.some.injEq] at h1
      subst h1
      rw [List.flatten_cons, Nat.zero_mul, Nat.zero_add, List.getElem?_append_left ((List.getElem?_eq_some_iff.1 h2).1)]
      exact h2
    | succ i =>
      simp only [List.getElem?_cons_succ] at h1
      rw [List.flatten_cons, List.getElem?_append_right (by rw [hl, Nat.succ_mul]; omega)]
      have : (i + 1) * sz + j - c.length = i * sz + j := by rw [hl, Nat.succ_mul]; omega
      rw [this]
      exact getElem?_flatten r (fun x hx => hs x (by simp [hx])) i j cs t h1 h2

theorem flatten_length {α : Type} {sz : Nat} : ∀ (es : List (List α)), (∀ cs ∈ es, cs.length = sz) → es.flatten.length = es.length * sz
  | [], _ => by simp
  | c :: r, hs => by rw [List.flatten_cons, List.length_append, flatten_length r (fun x hx => hs x (by simp [hx])), hs c (by simp), List.length_cons, Nat.succ_mul, Nat.add_comm]

section
variable {P : Program} {N : Nat} {o : Oper}

/-- A slice literal: a row of the call's own. -/
theorem c_buildSlice {d : Nat} {t e : TypeId} {len : Nat} {ps : List (Nat × Operand)} {es : List (List T)} {i : TypeInfo} {z : Value} {sz : Nat} {rd : List (Loc × Val)} (ho : o.op = .buildSlice t len ps.toArray) (hd : o.dst = some d) (hN : d < N)
    (ht : P.underlying t = some (.slice e)) (hi : P.info? e = some i) (hz : i.zero = some z) (hzp : z.cells.toList.all plain = true) (hzs : z.cells.size = sz) (hsz : i.size = sz) (h0 : 0 < sz) (hq : EvElems 0 ps es rd) (hlen : es.length = len) (hes : ∀ cs ∈ es, cs.length = sz) (hbig : len * sz ≤ 16777216) :
    LCore P N o rd [(.tmp d, .m (.one (.row d))), (.row d, .r e sz es)] [d] := by
  rintro E σ rfl hr hf K Q a w ⟨τ, hs⟩ hk
  subst hsz hlen
  obtain ⟨hl, hrep⟩ := hq.parts.rep hr hs
  let zc : Array Value := (Array.range (es.length * i.size)).map (z.cells[· % z.cells.size]!)
  have hzc : RepCs w (E.S τ) τ (zc.toList.map fun v => C.t (.v v)) zc.toList := by
    refine plain_cells (List.all_eq_true.2 fun v hv => ?_)
    obtain ⟨k, hk, rfl⟩ : ∃ k, k < es.length * i.size ∧ z.cells[k % z.cells.size]! = v := by
      simpa [zc] using hv
    have hlt : k % z.cells.size < z.cells.size := Nat.mod_lt _ (by omega)
    rw [getElem!_pos z.cells _ hlt]
    exact List.all_eq_true.1 hzp _ (by simp)
  have hfill := fillA_elems i.size es 0 (zc.toList.map fun v => C.t (.v v)) hes (by simp [zc])
  rw [Nat.zero_mul, List.take_zero, List.nil_append] at hfill
  obtain ⟨out, hout, hcs⟩ := fill_rep (w := w) (S := E.S τ) (τ := τ) (place := fun k => some (k * i.size, i.size)) (qsOf 0 es) (ps.map fun p => (p.1, a.eval p.2)) _ zc _ hzc hl hrep hfill
  have hol : out.size = es.length * i.size := by
    have := hcs.1
    rw [List.length_map, flatten_length es hes] at this
    simpa using this.symm
  have hm : es.length ≤ maxLen := by
    have : es.length * 1 ≤ es.length * i.size := Nat.mul_le_mul_left _ h0
    simp only [maxLen]
    omega
  have hparts : (Array.map (fun (x : Nat × Operand) => match x with | (i, x) => (i, a.eval x)) ps.toArray).toList = ps.map fun p => (p.1, a.eval p.2) := by simp
  refine wp_value (v := .slice (some ⟨w.heap.size, 0, none⟩) es.length es.length) (w' := w.alloc (.cells out e)) ?_ ?_
  · simp only [execOp, ho]
    refine run_value (fun x => Next.value x) ?_
    have hsmall : ¬ (2 ^ 24 < es.length * i.size) := by omega
    by_cases he : es.length * i.size = 0
    · have hnil : es = [] := List.eq_nil_of_length_eq_zero (by
        rcases Nat.mul_eq_zero.1 he with h | h
        · exact h
        · omega)
      subst hnil
      cases hq
      simp only [List.map_nil] at hout
      simp [Instr.fill] at hout
      subst hout
      simp [Instr.buildSlice, run_underlying ht, sizeOf, typeInfo, hi, newRow, Instr.fill, zc, show Array.range 0 = #[] from rfl]
    · have hout' : Instr.fill (fun k => some (k * i.size, i.size)) zc (Array.map (fun (x : Nat × Operand) => match x with | (i, x) => (i, a.eval x)) ps.toArray).toList = some out := by rw [hparts]; exact hout
      simp only [zc] at hout'
      simp [Instr.buildSlice, run_underlying ht, sizeOf, typeInfo, hi, newRow, hsmall, he, zeroValue, hz]
      simp at hout'
      simp [hout']
  · rw [hd]
    have hrow : ∀ S', (∀ k, k < w.heap.size → (E.S τ) k → S' k ∧ (w.alloc (.cells out e)).heap[k]? = w.heap[k]?) → RowOk (w.alloc (.cells out e)) S' (.slice (some ⟨w.heap.size, 0, none⟩) es.length es.length) e i.size es := fun S' hS => by
      refine ⟨h0, hes, out.toList, ?_, fun i' cs j t h1 h2 => ?_⟩
      · exact ⟨by simpa using hol, .inr ⟨w.heap.size, es.length, out, rfl, Nat.zero_le _, heap_alloc_new w _, Nat.le_refl _, hm, hol, List.take_of_length_le (by simp only [Array.length_toList]; omega)⟩⟩
      · have := getElem?_flatten es hes i' j cs t h1 h2
        obtain ⟨u, hu, hx⟩ := hcs.2 (i' * i.size + j) (.t t) (by rw [List.getElem?_map, this]; rfl)
        exact ⟨u, hu, (show RepT w _ t u from hx).step hS⟩
    obtain ⟨τ', h1, h2⟩ := hs.newRow (d := d) (Nat.lt_of_lt_of_le hN hs.lim) (hf d (by simp)) (m := d) (b := none) (w' := w.alloc (.cells out e)) (.inl rfl) (World.grownBy_alloc w _ _) (Nat.le_refl _) (fun k hk => by
      have : k = w.heap.size := by simpa [Value.ownBlock] using hk.symm
      subst this
      exact ⟨by simp, .inr (Nat.le_refl _)⟩) hrow
    have h3 := h1.put (x := .one (.row d)) hN (v := .slice (some ⟨w.heap.size, 0, none⟩) es.length es.length) ⟨h2.symm, rfl⟩
    exact hk _ _ ⟨τ', h3⟩

/-! ### append -/
def EvSrc (x : Operand) (sz : Nat) (es : List (List T)) (rd : List (Loc × Val)) : Prop := ∀ (E : Env) (τ : Tie) (σ : St) (a : Act) (w : World), agree σ rd → SimAt E τ σ a w → SrcOk w (E.S τ) (a.eval x) sz es

theorem EvSrc.tree {x : Operand} {sz : Nat} {es : List (List T)} {rd : List (Loc × Val)} (h : EvR x (.one (.t (.sl es))) rd) (h0 : 0 < sz) (hs : ∀ cs ∈ es, cs.length = sz) : EvSrc x sz es rd := fun E τ σ a w hr hsim => RepT.src hs h0 (h E τ σ a w hr hsim)
theorem EvSrc.tight {x : Operand} {sz : Nat} {es : List (List T)} {rd : List (Loc × Val)} (h : EvR x (.one (.tight es)) rd) (h0 : 0 < sz) (hs : ∀ cs ∈ es, cs.length = sz) : EvSrc x sz es rd := fun E τ σ a w hr hsim => RepT.src hs h0 (h E τ σ a w hr hsim).2
theorem EvSrc.nil {x : Operand} {sz : Nat} {rd : List (Loc × Val)} (h : EvR x (.one (.t (.v (.slice none 0 0)))) rd) (h0 : 0 < sz) : EvSrc x sz [] rd := fun E τ σ a w hr hsim => RepT.src (by simp) h0 (RepT.of_nil (h E τ σ a w hr hsim))
theorem EvSrc.row {x : Operand} {r e sz : Nat} {es : List (List T)} {rd : List (Loc × Val)} (h : EvR x (.one (.row r)) rd) : EvSrc x sz es (rd ++ [(.row r, .r e sz es)]) := fun E τ σ a w hr hsim => by
  have hv : a.eval x = τ.ν r := (h E τ σ a w (agree_append.1 hr).1 hsim).1
  have hrow := hsim.get (.row r)
  rw [(agree_append.1 hr).2.1] at hrow
  rw [hv]
  exact hrow.2.2.src

theorem run_call_builtin {b : Builtin} {args : Array Operand} {ts : Array TypeId} {a : Act} {w w' : World} {v : Value} (ho : o.op = .call { callee := .builtin b, args := args, argTypes := ts })
    (h : (builtin b ts o.type (args.map fun | .const _ => true | _ => false) (args.map a.eval)).run P w = .ok (.value v) w') : (execOp a.eval o).run P w = .ok (.value v) w' := by
  simp only [execOp, ho, resolve, invoke, Sem.run_bind, Sem.run_pure, Result.andThen_ok]
  exact h

theorem c_appendRow {d : Nat} {s x : Operand} {t e : TypeId} {m sz bytes : Nat} {es es2 : List (List T)} {i : TypeInfo} {z : Value} {rs rx : List (Loc × Val)}
    (ho : o.op = .call { callee := .builtin .append, args := #[s, x], argTypes := #[t, t] }) (hd : o.dst = some d) (hN : d < N)
    (ht : P.underlying t = some (.slice e)) (hi : P.info? e = some i) (hz : i.zero = some z) (hsize : i.size = sz) (hby : i.bytes = bytes) (hzs : z.cells.size = sz) (h0 : 0 < sz)
    (hs : EvR s (.one (.row m)) rs) (hx : EvSrc x sz es2 rx) (hmd : m ≠ d) (h63 : es.length + es2.length ≤ maxLen) (hb : (es.length + es2.length) * bytes ≤ 140737488355328) :
    LCore P N o (rs ++ rx ++ [(.row m, .r e sz es)]) [(.tmp d, .m (.one (.row d))), (.row d, .r e sz (es ++ es2)), (.row m, .gone)] [d] := by
  rintro E σ rfl hr hf K Q a w ⟨τ, hsim⟩ hk
  obtain ⟨hr1, hr2⟩ := agree_append.1 hr
  have hv : a.eval s = τ.ν m := (hs E τ σ a w (agree_append.1 hr1).1 hsim).1
  have hsrc := hx E τ σ a w (agree_append.1 hr1).2 hsim
  have hrow := hsim.get (.row m)
  rw [hr2.1] at hrow
  obtain ⟨hκ, hρ, _, hes, xs, hown, hrep⟩ := hrow
  obtain ⟨v', w', news, hrun, hown', hg, hdr, hat, hnews⟩ := run_append_src (P := P) t o.type e i z sz bytes ht hi hz hsize hby hzs h0 _ _ _ hown _ _ hsrc h63 hb
  refine wp_value (v := v') (w' := w') (run_call_builtin ho ?_) ?_
  · simp only [builtin, List.map_toArray, List.map_cons, List.map_nil, hv, Sem.run_bind, hrun, Result.andThen_ok, Sem.run_pure]
  · rw [hd]
    have hrow' : ∀ S', (∀ k, k < w.heap.size → (E.S τ) k → S' k ∧ w'.heap[k]? = w.heap[k]?) → RowOk w' S' v' e sz (es ++ es2) := fun S' hS => RowOk.join h0 hes hsrc.1 hown.1 hown' hrep hnews hS
    have hblk : ∀ k, v'.ownBlock = some k → k < w'.heap.size ∧ (v'.ownBlock = (τ.ν m).ownBlock ∨ w.heap.size ≤ k) := fun k hk => by
      refine ⟨(hown'.lt k hk).2, ?_⟩
      rcases hat with h | h
      · exact .inl h
      · rw [hk] at h; injection h with h; exact .inr (by omega)
    obtain ⟨τ', h1, h2⟩ := hsim.newRow (d := d) (Nat.lt_of_lt_of_le hN hsim.lim) (hf d (by simp)) (m := m) (b := (τ.ν m).ownBlock) (w' := w') (.inr ⟨hρ, hmd, hκ⟩) hg hdr hblk hrow'
    have h3 := h1.put (x := .one (.row d)) hN (v := v') ⟨h2.symm, by
      rcases hown'.2 with ⟨h, _⟩ | ⟨_, _, _, h, _⟩ <;> rw [h] <;> rfl⟩
    refine hk _ _ ⟨τ', h3.less fun l => ?_⟩
    simp only [List.cons_append, List.nil_append, look_cons]
    by_cases e1 : Loc.tmp d = l
    · simp [e1]
    · by_cases e2 : Loc.row d = l
      · simp [e1, e2]
      · by_cases e3 : Loc.row m = l
        · simp [e1, e2, e3]
        · right
          rw [if_neg e1, if_neg e2, if_neg e3, if_neg e1, if_neg e2]
          split
          · rw [look_cons, if_neg e3]
          · rfl

theorem c_appendNil {d : Nat} {s x : Operand} {t e : TypeId} {sz bytes : Nat} {es2 : List (List T)} {i : TypeInfo} {z : Value} {rs rx : List (Loc × Val)}
    (ho : o.op = .call { callee := .builtin .append, args := #[s, x], argTypes := #[t, t] }) (hd : o.dst = some d) (hN : d < N)
    (ht : P.underlying t = some (.slice e)) (hi : P.info? e = some i) (hz : i.zero = some z) (hsize : i.size = sz) (hby : i.bytes = bytes) (hzs : z.cells.size = sz) (h0 : 0 < sz)
    (hs : EvR s (.one (.t (.v (.slice none 0 0)))) rs) (hx : EvSrc x sz es2 rx) (h63 : es2.length ≤ maxLen) (hb : es2.length * bytes ≤ 140737488355328) :
    LCore P N o (rs ++ rx) [(.tmp d, .m (.one (.row d))), (.row d, .r e sz es2)] [d] := by
  rintro E σ rfl hr hf K Q a w ⟨τ, hsim⟩ hk
  obtain ⟨hr1, hr2⟩ := agree_append.1 hr
  have hv : a.eval s = .slice none 0 0 := hs.val hr1 hsim
  have hsrc := hx E τ σ a w hr2 hsim
  obtain ⟨v', w', news, hrun, hown', hg, hdr, hat, hnews⟩ := run_append_src (P := P) t o.type e i z sz bytes ht hi hz hsize hby hzs h0 _ _ _ (World.ownsRow_nil w 0 e sz) _ _ hsrc (by simpa using h63) (by simpa using hb)
  refine wp_value (v := v') (w' := w') (run_call_builtin ho ?_) ?_
  · simp only [builtin, List.map_toArray, List.map_cons, List.map_nil, hv, Sem.run_bind, hrun, Result.andThen_ok, Sem.run_pure]
  · rw [hd]
    have hrow' : ∀ S', (∀ k, k < w.heap.size → (E.S τ) k → S' k ∧ w'.heap[k]? = w.heap[k]?) → RowOk w' S' v' e sz es2 := fun S' hS => by
      have := RowOk.join (es := []) h0 (by simp) hsrc.1 (by simp) hown' (S := E.S τ) (w := w) (fun i cs j t h => by simp at h) hnews hS
      simpa using this
    have hblk : ∀ k, v'.ownBlock = some k → k < w'.heap.size ∧ (v'.ownBlock = none ∨ w.heap.size ≤ k) := fun k hk => by
      refine ⟨(hown'.lt k hk).2, ?_⟩
      rcases hat with h | h
      · exact .inl h
      · rw [hk] at h; injection h with h; exact .inr (by omega)
    obtain ⟨τ', h1, h2⟩ := hsim.newRow (d := d) (Nat.lt_of_lt_of_le hN hsim.lim) (hf d (by simp)) (m := d) (b := none) (w' := w') (.inl rfl) hg hdr hblk hrow'
    have h3 := h1.put (x := .one (.row d)) hN (v := v') ⟨h2.symm, by
      rcases hown'.2 with ⟨h, _⟩ | ⟨_, _, _, h, _⟩ <;> rw [h] <;> rfl⟩
    exact hk _ _ ⟨τ', h3⟩

/-! ### len -/
theorem c_len {d : Nat} {x : Operand} {t e : TypeId} {sz : Nat} {es : List (List T)} {rx : List (Loc × Val)} (ho : o.op = .call { callee := .builtin .len, args := #[x], argTypes := #[t] }) (hd : o.dst = some d) (hN : d < N)
    (ht : P.underlying t = some (.slice e)) (hx : EvSrc x sz es rx) : LCore P N o rx [(.tmp d, .m (.one (.t (.v (.int .i64 (es.length : Int))))))] [] :=
  c_pure hd hN fun E τ σ a w hr hs => by
    obtain ⟨_, A, c, news, hv, _⟩ := hx E τ σ a w hr hs
    exact ⟨_, run_call_builtin ho (by simp [builtin, Builtin.len_, hv, run_underlying ht, goInt]), .v rfl⟩
theorem c_lenTree {d : Nat} {x : Operand} {t e : TypeId} {es : List (List T)} {rx : List (Loc × Val)} (ho : o.op = .call { callee := .builtin .len, args := #[x], argTypes := #[t] }) (hd : o.dst = some d) (hN : d < N)
    (ht : P.underlying t = some (.slice e)) (hx : EvR x (.one (.t (.sl es))) rx) : LCore P N o rx [(.tmp d, .m (.one (.t (.v (.int .i64 (es.length : Int))))))] [] :=
  c_pure hd hN fun E τ σ a w hr hs => by
    have hv : RepT w (E.S τ) (.sl es) (a.eval x) := hx E τ σ a w hr hs
    generalize hu : a.eval x = u at hv
    obtain ⟨A, c, rfl⟩ : ∃ A c, u = .slice A es.length c := by
      cases hv with
      | nil => exact ⟨_, _, rfl⟩
      | sl sz hn => subst hn; exact ⟨_, _, rfl⟩
    exact ⟨_, run_call_builtin ho (by simp [builtin, Builtin.len_, hu, run_underlying ht, goInt]), .v rfl⟩
theorem c_lenNil {d : Nat} {x : Operand} {t e : TypeId} {rx : List (Loc × Val)} (ho : o.op = .call { callee := .builtin .len, args := #[x], argTypes := #[t] }) (hd : o.dst = some d) (hN : d < N)
    (ht : P.underlying t = some (.slice e)) (hx : EvR x (.one (.t (.v (.slice none 0 0)))) rx) : LCore P N o rx [(.tmp d, .m (.one (.t (.v (.int .i64 0)))))] [] :=
  c_pure hd hN fun E τ σ a w hr hs => ⟨_, run_call_builtin ho (by simp [builtin, Builtin.len_, hx.val hr hs, run_underlying ht, goInt]), .v rfl⟩
theorem c_lenStr {d : Nat} {x : Operand} {t : TypeId} {s : ByteArray} {rx : List (Loc × Val)} (ho : o.op = .call { callee := .builtin .len, args := #[x], argTypes := #[t] }) (hd : o.dst = some d) (hN : d < N)
    (ht : P.underlying t = some .string) (hx : EvR x (.one (.t (.v (.string s)))) rx) : LCore P N o rx [(.tmp d, .m (.one (.t (.v (.int .i64 (s.size : Int))))))] [] :=
  c_pure hd hN fun E τ σ a w hr hs => ⟨_, run_call_builtin ho (by simp [builtin, Builtin.len_, hx.val hr hs, run_underlying ht, goInt]), .v rfl⟩

/-! ### Tuples, closures -/
theorem c_extract {d : Nat} {x : Operand} {k : Nat} {ms : List (Bool × List C)} {b : Bool × List C} {m : M} {rx : List (Loc × Val)} (ho : o.op = .extract x k) (hd : o.dst = some d) (hN : d < N) (hx : EvR x (.tup ms) rx) (hk : ms[k]? = some b)
    (hm : match b with | (false, [c]) => m = .one c | (true, cs) => m = .agg cs | _ => False) : LCore P N o rx [(.tmp d, .m m)] [] :=
  c_pure hd hN fun E τ σ a w hr hs => by
    obtain ⟨vs, hv, hl, hb⟩ := hx E τ σ a w hr hs
    obtain ⟨u, hu, hrep⟩ := hb k b hk
    refine ⟨u, by simp only [execOp, ho, hv]; exact run_value (fun x => Next.value x) (by simp [Instr.extract, hu]), ?_⟩
    obtain ⟨q, cs⟩ := b
    cases q with
    | true => simp only at hm; subst hm; exact hrep
    | false =>
      obtain ⟨c, rfl, hc⟩ := hrep
      simp only at hm
      subst hm
      exact hc

def capNames : List (Bool × List C) → Option (List Nat)
  | [] => some []
  | (false, [.ptr n 0]) :: r => (capNames r).map (n :: ·)
  | _ => none

theorem c_makeFunc {d : Nat} {f : FuncId} {xs : List Operand} {ns : List Nat} {rd : List (Loc × Val)} (ho : o.op = .makeFunc (.func f) #[] xs.toArray) (hd : o.dst = some d) (hN : d < N)
    (hrd : rd = (xs.zip ns).filterMap fun p => match p.1 with | .tmp t => some (.tmp t, .m (.one (.ptr p.2 0))) | _ => none) (hl : xs.length = ns.length) (hx : xs.all (fun | .tmp _ => true | _ => false) = true) : LCore P N o rd [(.tmp d, .m (.one (.fn f ns)))] [] :=
  c_pure hd hN fun E τ σ a w hr hs => by
    refine ⟨.func (.func f) #[] (xs.map a.eval).toArray, by simp only [execOp, ho]; exact run_value (fun x => Next.value x) (by simp [Instr.makeFunc]), ?_⟩
    show _ = _
    congr 2
    subst hrd
    clear ho
    induction xs generalizing ns with
    | nil =>
      cases ns with
      | nil => rfl
      | cons _ _ => simp at hl
    | cons x xs ih =>
      cases ns with
      | nil => simp at hl
      | cons n ns =>
        simp only [List.all_cons, Bool.and_eq_true] at hx
        cases x with
        | tmp t =>
          simp only [List.zip_cons_cons] at hr
          have h1 := hs.get (.tmp t)
          rw [hr.1] at h1
          rw [List.map_cons, List.map_cons, ih (by simpa using hl) hx.2 hr.2]
          congr 1
        | _ => simp at hx
end
end Go.PM
