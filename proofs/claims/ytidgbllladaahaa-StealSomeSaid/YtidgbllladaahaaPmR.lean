/- A part of a layer between the model's runs and plain values: steps of code simulate plain functions; no program is named here. -/
import Derived.Test.YtidgbllladaahaaPmP
import Derived.ProofKit
set_option linter.all false
namespace Go.PM
open Go Go.RowKit

/-! ### What an argument reads as -/
inductive Sh where
  | int (k : IntKind)
  | bool
  | str
  | sl (fs : List Sh)

inductive HasSh : Sh → T → Prop
  | int {k : IntKind} {n : Int} (h : (Lit.int k n).wf = true) : HasSh (.int k) (.v (.int k n))
  | bool (b : Bool) : HasSh .bool (.v (.bool b))
  | str {s : ByteArray} (h : s.size ≤ maxLen) : HasSh .str (.v (.string s))
  | sl {fs : List Sh} {es : List (List T)} (hl : ∀ cs ∈ es, cs.length = fs.length) (h : ∀ cs ∈ es, ∀ (j : Nat) (f : Sh) (t : T), fs[j]? = some f → cs[j]? = some t → HasSh f t) : HasSh (.sl fs) (.sl es)

mutual
/-- The cells of a type. -/
inductive ShOf (P : Program) : TypeId → List Sh → Prop
  | bool {t : TypeId} (h : P.underlying t = some .bool) (hc : P.cellsOf t = 1) : ShOf P t [.bool]
  | int {t : TypeId} {k : IntKind} (h : P.underlying t = some (.int k)) (hc : P.cellsOf t = 1) : ShOf P t [.int k]
  | str {t : TypeId} (h : P.underlying t = some .string) (hc : P.cellsOf t = 1) : ShOf P t [.str]
  | slice {t e : TypeId} {fs : List Sh} (h : P.underlying t = some (.slice e)) (hc : P.cellsOf t = 1) (he : ShOf P e fs) (h0 : fs ≠ []) : ShOf P t [.sl fs]
  | struct {t : TypeId} {fields : Array Field} {fs : List Sh} (h : P.underlying t = some (.struct fields)) (hc : P.cellsOf t = fs.length) (hf : ShFs P fields.toList 0 fs) : ShOf P t fs
inductive ShFs (P : Program) : List Field → Nat → List Sh → Prop
  | nil {off : Nat} : ShFs P [] off []
  | cons {f : Field} {r : List Field} {off : Nat} {a b : List Sh} (ho : f.offset = off) (hf : ShOf P f.type a) (hr : ShFs P r (off + a.length) b) : ShFs P (f :: r) off (a ++ b)
end
theorem ShOf.cells {P : Program} {t : TypeId} {fs : List Sh} (h : ShOf P t fs) : P.cellsOf t = fs.length := by
  cases h <;> assumption

/-- Cells that read as these trees. -/
def Reads (w : World) (fs : List Sh) (cs : List Value) (ts : List T) : Prop :=
  ts.length = fs.length ∧ cs.length = fs.length ∧ (∀ (j : Nat) (f : Sh) (t : T), fs[j]? = some f → ts[j]? = some t → HasSh f t) ∧ ∀ (j : Nat) (t : T), ts[j]? = some t → ∃ u, cs[j]? = some u ∧ RepT w (fun _ => True) t u

theorem Reads.one {w : World} {f : Sh} {v : Value} {t : T} (h : HasSh f t) (hr : RepT w (fun _ => True) t v) : Reads w [f] [v] [t] := by
  refine ⟨rfl, rfl, fun j g u h1 h2 => ?_, fun j u h1 => ?_⟩
  · cases j with
    | zero => simp at h1 h2; subst h1 h2; exact h
    | succ j => simp at h1
  · cases j with
    | zero => simp at h1; subst h1; exact ⟨v, rfl, hr⟩
    | succ j => simp at h1

theorem Reads.append {w : World} {a b : List Sh} {cs ds : List Value} {ts us : List T} (h : Reads w a cs ts) (k : Reads w b ds us) : Reads w (a ++ b) (cs ++ ds) (ts ++ us) := by
  obtain ⟨h1, h2, h3, h4⟩ := h
  obtain ⟨k1, k2, k3, k4⟩ := k
  refine ⟨by simp [h1, k1], by simp [h2, k2], fun j f t e1 e2 => ?_, fun j t e1 => ?_⟩
  · by_cases hj : j < a.length
    · rw [List.getElem?_append_left hj] at e1
      rw [List.getElem?_append_left (by omega)] at e2
      exact h3 j f t e1 e2
    · rw [List.getElem?_append_right (by omega)] at e1
      rw [List.getElem?_append_right (by omega), h1] at e2
      exact k3 _ f t e1 e2
  · by_cases hj : j < ts.length
    · rw [List.getElem?_append_left hj] at e1
      obtain ⟨u, hu, hr⟩ := h4 j t e1
      exact ⟨u, by rw [List.getElem?_append_left (by omega)]; exact hu, hr⟩
    · rw [List.getElem?_append_right (by omega)] at e1
      obtain ⟨u, hu, hr⟩ := k4 _ t e1
      exact ⟨u, by rw [List.getElem?_append_right (by omega), h2, ← h1]; exact hu, hr⟩

theorem mapM_get {α β : Type} {f : α → Option β} : ∀ {l : List α} {r : List β}, l.mapM f = some r → r.length = l.length ∧ ∀ (i : Nat) (x : α), l[i]? = some x → ∃ y, r[i]? = some y ∧ f x = some y := by
  intro l
  induction l with
  | nil => intro r h; simp at h; subst h; exact ⟨rfl, fun i x hx => by simp at hx⟩
  | cons a l ih =>
    intro r h
    rw [List.mapM_cons] at h
    cases ha : f a with
    | none => rw [ha] at h; cases h
    | some b =>
      rw [ha] at h
      cases hl : l.mapM f with
      | none => rw [hl] at h; cases h
      | some s =>
        rw [hl] at h
        injection h with h
        subst h
        obtain ⟨h1, h2⟩ := ih hl
        refine ⟨by simp [h1], fun i x hx => ?_⟩
        cases i with
        | zero => simp at hx; subst hx; exact ⟨b, rfl, ha⟩
        | succ i => simp at hx ⊢; exact h2 i x hx

theorem cells?_get {w : World} {base : Nat} {a : Addr} {n : Nat} {cs : List Value} (h : w.cells? base a n = some cs) : cs.length = n ∧ ∀ (j : Nat) (u : Value), cs[j]? = some u → w.cell? (a.add j) = some u := by
  unfold World.cells? at h
  split at h
  · obtain ⟨h1, h2⟩ := mapM_get h
    rw [List.length_range] at h1
    refine ⟨h1, fun j u hu => ?_⟩
    have hj : j < n := by rw [← h1]; exact (List.getElem?_eq_some_iff.1 hu).1
    obtain ⟨y, hy, hc⟩ := h2 j j (by rw [List.getElem?_range hj])
    rw [hu] at hy
    injection hy with hy
    rw [hc, hy]
  · cases h

/-- One of each. -/
theorem choose_list {α β : Type} {R : Nat → α → β → Prop} : ∀ (l : List α) (k : Nat), (∀ (i : Nat) (x : α), l[i]? = some x → ∃ y, R (k + i) x y) → ∃ r : List β, r.length = l.length ∧ ∀ (i : Nat) (x : α) (y : β), l[i]? = some x → r[i]? = some y → R (k + i) x y
  | [], _, _ => ⟨[], rfl, fun i x y h => by simp at h⟩
  | a :: l, k, h => by
    obtain ⟨y, hy⟩ := h 0 a rfl
    obtain ⟨r, h1, h2⟩ := choose_list (R := R) l (k + 1) (fun i x hx => by
      have := h (i + 1) x (by simpa using hx)
      rw [show k + 1 + i = k + (i + 1) by omega]
      exact this)
    refine ⟨y :: r, by simp [h1], fun i x z hx hz => ?_⟩
    cases i with
    | zero => simp at hx hz; subst hx hz; exact hy
    | succ i =>
      simp at hx hz
      have := h2 i x z hx hz
      rw [show k + 1 + i = k + (i + 1) by omega] at this
      exact this

section
variable {H : Type} {enc : TypeId × Value → H} {P : Program} {w : World} {base : Nat} {spare : Nat → Bool} {held : Bool}
theorem fields_read {fuel : Nat} (ih : ∀ {t : TypeId} {cs : List Value} {d : DataW H} {ps : List MemPlace} {fs : List Sh}, DataW.trod enc P w base spare held fuel t cs = some (d, ps) → ShOf P t fs → ∃ ts, Reads w fs cs ts) (cs : List Value) :
    ∀ {fields : List Field} {off : Nat} {fs : List Sh} {xs : List (DataW H × List MemPlace)}, fields.mapM (fun f => DataW.trod enc P w base spare held fuel f.type ((cs.drop f.offset).take (P.cellsOf f.type))) = some xs → ShFs P fields off fs → cs.length = off + fs.length → ∃ ts, Reads w fs (cs.drop off) ts := by
  intro fields
  induction fields with
  | nil =>
    intro off fs xs _ hs hl
    cases hs
    exact ⟨[], rfl, by simp at hl ⊢; omega, fun j f t h => by simp at h, fun j t h => by simp at h⟩
  | cons f r ihr =>
    intro off fs xs hm hs hl
    cases hs with
    | @cons _ _ _ a b ho hf hr =>
      rw [List.mapM_cons] at hm
      cases hx : DataW.trod enc P w base spare held fuel f.type ((cs.drop f.offset).take (P.cellsOf f.type)) with
      | none => rw [hx] at hm; cases hm
      | some x =>
        rw [hx] at hm
        cases hy : r.mapM (fun f => DataW.trod enc P w base spare held fuel f.type ((cs.drop f.offset).take (P.cellsOf f.type))) with
        | none => rw [hy] at hm; cases hm
        | some ys =>
          obtain ⟨d, ps⟩ := x
          obtain ⟨ts, ht⟩ := ih hx hf
          rw [List.length_append] at hl
          obtain ⟨us, hu⟩ := ihr hy hr (by omega)
          have := ht.append hu
          rw [hf.cells, ho] at this
          have e : (cs.drop off).take a.length ++ cs.drop (off + a.length) = cs.drop off := by
            rw [← List.drop_drop, List.take_append_drop]
          rw [e] at this
          exact ⟨_, this⟩

theorem trod_reads : ∀ (fuel : Nat) {t : TypeId} {cs : List Value} {d : DataW H} {ps : List MemPlace} {fs : List Sh}, DataW.trod enc P w base spare held fuel t cs = some (d, ps) → ShOf P t fs → ∃ ts, Reads w fs cs ts := by
  intro fuel
  induction fuel with
  | zero => intro t cs d ps fs h; simp [DataW.trod] at h
  | succ fuel ih =>
    intro t cs d ps fs h hs
    cases hs with
    | bool hu hc =>
      simp only [DataW.trod, hu] at h
      match cs, h with
      | [.bool b], _ => exact ⟨[.v (.bool b)], Reads.one (.bool b) (.v rfl)⟩
    | @int _ k hu hc =>
      simp only [DataW.trod, hu] at h
      match cs, h with
      | [.int k' n], h =>
        by_cases hk : k' = k ∧ (Lit.int k n).wf = true
        · obtain ⟨rfl, hw⟩ := hk
          exact ⟨[.v (.int k' n)], Reads.one (.int hw) (.v rfl)⟩
        · simp only [hk, if_false] at h
          cases h
    | str hu hc =>
      simp only [DataW.trod, hu] at h
      match cs, h with
      | [.string s], h =>
        by_cases hk : s.size ≤ maxLen
        · exact ⟨[.v (.string s)], Reads.one (.str hk) (.v rfl)⟩
        · simp only [hk, if_false] at h
          cases h
    | @slice _ e fs hu hc he h0 =>
      simp only [DataW.trod, hu] at h
      match cs, h with
      | [.slice none 0 0], _ => exact ⟨[.sl []], Reads.one (.sl (fun _ h => by simp at h) (fun _ h => by simp at h)) .nil⟩
      | [.slice (some a) len cap], h =>
        by_cases hk : base ≤ a.block ∧ len ≤ cap ∧ cap ≤ maxLen
        · simp only [hk, and_self, if_true] at h
          cases hm : (List.range len).mapM (fun i => (w.cells? base (a.add (i * P.cellsOf e)) (P.cellsOf e)).bind (DataW.trod enc P w base spare held fuel e)) with
          | none => rw [hm] at h; cases h
          | some elems =>
            obtain ⟨_, hget⟩ := mapM_get hm
            have hel : ∀ (i x : Nat), (List.range len)[i]? = some x → ∃ ts : List T, ts.length = fs.length ∧ (∀ (j : Nat) (f : Sh) (t : T), fs[j]? = some f → ts[j]? = some t → HasSh f t) ∧ ∀ (j : Nat) (t : T), ts[j]? = some t → ∃ u, w.cell? (a.add (i * fs.length + j)) = some u ∧ RepT w (fun _ => True) t u := fun i x hx => by
              obtain ⟨y, _, hy⟩ := hget i x hx
              have hi : i < len := by simpa using (List.getElem?_eq_some_iff.1 hx).1
              rw [List.getElem?_range hi] at hx
              injection hx with hx
              subst hx
              cases hcs : w.cells? base (a.add (i * P.cellsOf e)) (P.cellsOf e) with
              | none => rw [hcs] at hy; cases hy
              | some cs =>
                rw [hcs] at hy
                obtain ⟨d', ps'⟩ := y
                obtain ⟨ts, h1, h2, h3, h4⟩ := ih hy he
                obtain ⟨_, hcell⟩ := cells?_get hcs
                refine ⟨ts, h1, h3, fun j t ht => ?_⟩
                obtain ⟨u, hu, hr⟩ := h4 j t ht
                have := hcell j u hu
                rw [he.cells, add_add] at this
                exact ⟨u, this, hr⟩
            obtain ⟨es, hl, hes⟩ := choose_list (R := fun i _ (ts : List T) => ts.length = fs.length ∧ (∀ (j : Nat) (f : Sh) (t : T), fs[j]? = some f → ts[j]? = some t → HasSh f t) ∧ ∀ (j : Nat) (t : T), ts[j]? = some t → ∃ u, w.cell? (a.add (i * fs.length + j)) = some u ∧ RepT w (fun _ => True) t u) (List.range len) 0 (fun i x hx => by simpa using hel i x hx)
            rw [List.length_range] at hl
            have hes' : ∀ (i : Nat) (cs : List T), es[i]? = some cs → cs.length = fs.length ∧ (∀ (j : Nat) (f : Sh) (t : T), fs[j]? = some f → cs[j]? = some t → HasSh f t) ∧ ∀ (j : Nat) (t : T), cs[j]? = some t → ∃ u, w.cell? (a.add (i * fs.length + j)) = some u ∧ RepT w (fun _ => True) t u := fun i cs hi => by
              have hlt : i < len := by rw [← hl]; exact (List.getElem?_eq_some_iff.1 hi).1
              simpa using hes i i cs (by rw [List.getElem?_range hlt]) hi
            have hmem : ∀ cs ∈ es, ∃ i : Nat, es[i]? = some cs := fun cs hcs => List.getElem?_of_mem hcs
            refine ⟨[.sl es], Reads.one (.sl (fun cs hcs => ?_) (fun cs hcs => ?_)) ?_⟩
            · obtain ⟨i, hi⟩ := hmem cs hcs; exact (hes' i cs hi).1
            · obtain ⟨i, hi⟩ := hmem cs hcs; exact (hes' i cs hi).2.1
            · refine .sl (vs := fun i j => (w.cell? (a.add (i * fs.length + j))).getD undef) fs.length hl hk.2.1 hk.2.2 (List.length_pos_iff.2 h0) trivial (fun cs hcs => by obtain ⟨i, hi⟩ := hmem cs hcs; exact (hes' i cs hi).1) (fun i cs j t h1 h2 => ?_) (fun i cs j t h1 h2 => ?_)
              · obtain ⟨u, hu, _⟩ := (hes' i cs h1).2.2 j t h2
                rw [hu]; rfl
              · obtain ⟨u, hu, hr⟩ := (hes' i cs h1).2.2 j t h2
                rw [hu]; exact hr
        · simp only [hk, if_false] at h
          cases h
    | @struct _ fields fs hu hc hf =>
      simp only [DataW.trod, hu] at h
      by_cases hl : cs.length = P.cellsOf t
      · simp only [hl, if_true] at h
        cases hm : fields.toList.mapM (fun f => DataW.trod enc P w base spare held fuel f.type ((cs.drop f.offset).take (P.cellsOf f.type))) with
        | none => rw [hm] at h; cases h
        | some xs =>
          have := fields_read (fun h hs => ih h hs) cs hm hf (by rw [hl, hc]; simp)
          simpa using this
      · simp only [hl, if_false] at h
        cases h

/-! ### From trees to what is typed -/
theorem lift_list {α : Type} {f : α → List T} {R : α → Prop} {fs : List Sh} {es : List (List T)} (h : HasSh (.sl fs) (.sl es)) (hel : ∀ cs : List T, cs.length = fs.length → (∀ (j : Nat) (g : Sh) (t : T), fs[j]? = some g → cs[j]? = some t → HasSh g t) → ∃ x, cs = f x ∧ R x) : ∃ l : List α, es = l.map f ∧ ∀ x ∈ l, R x := by
  cases h with
  | sl hl h =>
    induction es with
    | nil => exact ⟨[], rfl, fun x hx => by simp at hx⟩
    | cons cs es ih =>
      obtain ⟨l, rfl, hr⟩ := ih (fun c hc => hl c (by simp [hc])) (fun c hc => h c (by simp [hc]))
      obtain ⟨x, rfl, hx⟩ := hel cs (hl cs (by simp)) (h cs (by simp))
      exact ⟨x :: l, rfl, fun y hy => by
        rcases List.mem_cons.1 hy with rfl | hy
        · exact hx
        · exact hr y hy⟩
theorem HasSh.int_of {k : IntKind} {t : T} (h : HasSh (.int k) t) : ∃ n, t = .v (.int k n) ∧ (Lit.int k n).wf = true := by
  cases h with
  | int h => exact ⟨_, rfl, h⟩
theorem HasSh.sl_of {fs : List Sh} {t : T} (h : HasSh (.sl fs) t) : ∃ es, t = .sl es := by
  cases h with
  | sl hl h => exact ⟨_, rfl⟩
theorem HasSh.bool_of {t : T} (h : HasSh .bool t) : ∃ b, t = .v (.bool b) := by
  cases h with
  | bool b => exact ⟨_, rfl⟩
theorem HasSh.str_of {t : T} (h : HasSh .str t) : ∃ s, t = .v (.string s) ∧ s.size ≤ maxLen := by
  cases h with
  | str h => exact ⟨_, rfl, h⟩

/-! ### A law's end -/
theorem Below.of_sim {w w' : World} {S0 : Nat → Prop} {t τ' : Tie} {post : St} {a' : Act} (h : SimAt ⟨w, 0, S0, fun _ => False, t⟩ τ' post a' w') : Below w.heap.size w w' :=
  ⟨h.os, h.tape, h.output.1, h.grow, fun k hk => h.keep k hk (fun h => h)⟩
theorem law_calls {f : FuncId} {ins : List M} {args : Array Value} (hA : ACalls P f ins [] (.one (.t (.v (.bool true)))) []) (hins : RepMs w (fun _ => True) Tie.empty ins args.toList) : Calls P f args w fun e w' => e = .returned (.bool true) ∧ Below w.heap.size w w' := by
  have := hA.2 w (fun _ => True) (fun _ => False) Tie.empty args.toList (sim_empty w _) ⟨hins.1, fun j m hj => by
    obtain ⟨u, hu, hr⟩ := hins.2 j m hj
    exact ⟨u, hu, hr.step (fun k _ _ => ⟨⟨.inl trivial, fun n hn => by cases hn⟩, rfl⟩) (fun _ _ => ⟨rfl, rfl⟩)⟩⟩
  refine this.mono ?_
  rintro e w' ⟨v, τ', rfl, hs, hv, _⟩
  refine ⟨?_, Below.of_sim hs⟩
  have : RepT w' _ (.v (.bool true)) v := hv
  cases this
  rfl

theorem arg_agg {t : TypeId} {v : Value} {d : DataW H} {p : List MemPlace} {r : Reach} {b : Nat} {fs : List Sh} {fields : Array Field} (hu : P.underlying t = some (.struct fields)) (hs : ShOf P t fs) (h : DataW.Trod enc P w base spare held t v d p) (hok : Value.okWide P w r b t v) :
    ∃ ts : List T, ts.length = fs.length ∧ (∀ (j : Nat) (f : Sh) (tr : T), fs[j]? = some f → ts[j]? = some tr → HasSh f tr) ∧ RepM w (fun _ => True) Tie.empty (.agg (ts.map .t)) v := by
  obtain ⟨fuel, h⟩ := h
  obtain ⟨ts, h1, h2, h3, h4⟩ := trod_reads fuel h hs
  simp only [Value.okWide, hu] at hok
  obtain ⟨cs, rfl, _, _⟩ := hok
  refine ⟨ts, h1, h3, cs, rfl, ?_, fun j c hj => ?_⟩
  · rw [List.length_map, h1, ← h2]; rfl
  · rw [List.getElem?_map] at hj
    cases ht : ts[j]? with
    | none => rw [ht] at hj; cases hj
    | some tr =>
      rw [ht] at hj
      simp only [Option.map_some, Option.some.injEq] at hj
      subst hj
      exact h4 j tr ht

theorem arg_one {t : TypeId} {v : Value} {d : DataW H} {p : List MemPlace} {r : Reach} {b : Nat} {f : Sh} (hn : ∀ fields, P.underlying t ≠ some (.struct fields)) (hs : ShOf P t [f]) (h : DataW.Trod enc P w base spare held t v d p) (hok : Value.okWide P w r b t v) :
    ∃ tr : T, HasSh f tr ∧ RepM w (fun _ => True) Tie.empty (.one (.t tr)) v := by
  obtain ⟨fuel, h⟩ := h
  obtain ⟨ts, h1, h2, h3, h4⟩ := trod_reads fuel h hs
  have hcells : v.cells.toList = [v] := by
    cases v with
    | agg cs =>
      exfalso
      cases hs with
      | bool hu _ => simp [Value.okWide, hu, Cell.okWide, Cell.ok] at hok
      | int hu _ => simp [Value.okWide, hu, Cell.okWide, Cell.ok] at hok
      | str hu _ => simp [Value.okWide, hu, Cell.okWide, Cell.ok] at hok
      | slice hu _ _ _ => simp [Value.okWide, hu, Cell.okWide, Cell.ok] at hok
      | struct hu _ _ => exact hn _ hu
    | _ => rfl
  obtain ⟨tr, rfl⟩ : ∃ tr, ts = [tr] := List.length_eq_one_iff.1 h1
  obtain ⟨u, hu, hr⟩ := h4 0 tr rfl
  rw [hcells] at hu
  injection hu with hu
  subst hu
  exact ⟨tr, h3 0 f tr rfl rfl, hr⟩

theorem trodAll_stays (hl : laidOutB P = true) {W W' : World} (hb : Below W.heap.size W W') : ∀ {ts : List TypeId} {vs : List Value} {ds : List (DataW H)} {ps : List MemPlace}, DataW.TrodAll enc P W 0 (fun _ => true) true ts vs ds ps →
    (∀ t ∈ ts, P.readableRec t = true ∧ t < P.types.size) → (∀ x ∈ ps, x.block < W.heap.size) → DataW.TrodAll enc P W' 0 (fun b => decide (b < W.heap.size)) true ts vs ds ps := by
  intro ts
  induction ts with
  | nil => intro vs ds ps h _ _; cases vs <;> cases ds <;> first | exact h | exact h.elim
  | cons t ts ih =>
    intro vs ds ps h ht hp
    match vs, ds, h with
    | v :: vs, d :: ds, h =>
      obtain ⟨p, q, h1, h2, rfl⟩ := h
      exact ⟨p, q, Below.trod hl (ht t (by simp)).1 (ht t (by simp)).2 h1 hb (fun x hx => hp x (by simp [hx])), ih h2 (fun u hu => ht u (by simp [hu])) (fun x hx => hp x (by simp [hx])), rfl⟩

/-- What a law's call leaves is what its row asks. -/
theorem law_post {f : FuncId} {fn : Func} {s : ChangeSpec} {apart : Bool} {W : World} {args : Array Value} {ds gs : List (DataW H)} {before : List MemPlace} {tb : TypeId} (hv : s.vars = []) (hs : s.fn H ds = { results := [.lit (.bool true)], args := ds }) (hres : fn.resultTypes = #[tb]) (htb : P.underlying tb = some .bool)
    (hl : laidOutB P = true) (hread : ∀ t ∈ fn.params.toList, P.readableRec t = true ∧ t < P.types.size) (hW : DataW.Whole enc P fn.params.toList s.vars apart W args.toList ds gs before)
    (hc : Calls P f args W fun e W' => e = .returned (.bool true) ∧ Below W.heap.size W W') : Calls P f args W fun e W' => ∃ v, e = .returned v ∧ s.post enc P fn apart true false false W args v W' := by
  refine hc.mono ?_
  rintro e W' ⟨rfl, hb⟩
  refine ⟨_, rfl, ?_⟩
  have hlt : ∀ x ∈ before, x.block < W.heap.size := fun x hx => hW.lt x hx
  have hW' := hW
  obtain ⟨p, q, hA, hV, rfl, _, _⟩ := hW
  rw [hv] at hV
  obtain ⟨rfl, rfl⟩ := Go.ChangeShapes.trodVars_none hV
  have hA' := trodAll_stays hl hb hA hread (fun x hx => hlt x (by simp [hx]))
  refine ⟨ds, [], p ++ [], [], p, [], hW', ?_, ?_, ?_, World.keptBut_mono (fun x hx => ⟨hx, .inr (.inl (by simpa using hx))⟩) (hb.frame (· ∈ p ++ [])), fun h => by cases h⟩
  · rw [List.append_nil, hs, hres]
    exact ⟨[], [], ⟨1, by simp [DataW.trod, htb, Value.cells]⟩, rfl, rfl⟩
  · rw [List.append_nil, hs]; exact hA'
  · rw [hv, List.append_nil, hs]; rfl
end

/-! ### Ranges -/
def Ii64 (n : Int) : Prop := -9223372036854775808 ≤ n ∧ n ≤ 9223372036854775807
def Iu64 (n : Int) : Prop := 0 ≤ n ∧ n ≤ 18446744073709551615
def Iu8 (n : Int) : Prop := 0 ≤ n ∧ n ≤ 255
def Ii32 (n : Int) : Prop := -2147483648 ≤ n ∧ n ≤ 2147483647
theorem wfi64 {n : Int} (h : (Lit.int .i64 n).wf = true) : Ii64 n := by
  simp [Lit.wf, IntKind.min, IntKind.max, IntKind.signed, IntKind.bits] at h; exact h
theorem wfu64 {n : Int} (h : (Lit.int .u64 n).wf = true) : Iu64 n := by
  simp [Lit.wf, IntKind.min, IntKind.max, IntKind.signed, IntKind.bits] at h; exact h
theorem wfu8 {n : Int} (h : (Lit.int .u8 n).wf = true) : Iu8 n := by
  simp [Lit.wf, IntKind.min, IntKind.max, IntKind.signed, IntKind.bits] at h; exact h
theorem wfi32 {n : Int} (h : (Lit.int .i32 n).wf = true) : Ii32 n := by
  simp [Lit.wf, IntKind.min, IntKind.max, IntKind.signed, IntKind.bits] at h; exact h
theorem cons_of {α : Type} {l : List α} {n : Nat} (h : l.length = n + 1) : ∃ a r, l = a :: r ∧ r.length = n := by
  cases l with
  | nil => cases h
  | cons a r => exact ⟨a, r, rfl, by simpa using h⟩
theorem nil_of {α : Type} {l : List α} (h : l.length = 0) : l = [] := List.eq_nil_of_length_eq_zero h
theorem repMs_nil {w : World} {S : Nat → Prop} {τ : Tie} : RepMs w S τ [] [] := ⟨rfl, fun j m h => by simp at h⟩
theorem repMs_cons {w : World} {S : Nat → Prop} {τ : Tie} {m : M} {v : Value} {ms : List M} {vs : List Value} (h : RepM w S τ m v) (hs : RepMs w S τ ms vs) : RepMs w S τ (m :: ms) (v :: vs) :=
  ⟨by simp [hs.1], fun j x hj => by
    cases j with
    | zero => simp at hj; subst hj; exact ⟨v, rfl, h⟩
    | succ j => simp at hj ⊢; exact hs.2 j x hj⟩
theorem repMs_1 {w : World} {S : Nat → Prop} {τ : Tie} {a : M} {u : Value} (ha : RepM w S τ a u) : RepMs w S τ [a] [u] := repMs_cons ha repMs_nil
theorem repMs_2 {w : World} {S : Nat → Prop} {τ : Tie} {a b : M} {u v : Value} (ha : RepM w S τ a u) (hb : RepM w S τ b v) : RepMs w S τ [a, b] [u, v] := repMs_cons ha (repMs_1 hb)
theorem repMs_3 {w : World} {S : Nat → Prop} {τ : Tie} {a b c : M} {u v x : Value} (ha : RepM w S τ a u) (hb : RepM w S τ b v) (hc : RepM w S τ c x) : RepMs w S τ [a, b, c] [u, v, x] := repMs_cons ha (repMs_2 hb hc)
theorem repMs_4 {w : World} {S : Nat → Prop} {τ : Tie} {a b c d : M} {u v x y : Value} (ha : RepM w S τ a u) (hb : RepM w S τ b v) (hc : RepM w S τ c x) (hd : RepM w S τ d y) : RepMs w S τ [a, b, c, d] [u, v, x, y] := repMs_cons ha (repMs_3 hb hc hd)
end Go.PM
