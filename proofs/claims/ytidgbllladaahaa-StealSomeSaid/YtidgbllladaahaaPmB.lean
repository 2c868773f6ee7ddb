/- A part of a layer between the model's runs and plain values: steps of code simulate plain functions; no program is named here. -/
import Derived.Test.YtidgbllladaahaaPmA
set_option linter.all false
namespace Go.PM
open Go Go.RowKit

/-! ### What an operation reads and writes -/
def agree (σ : St) : List (Loc × Val) → Prop
  | [] => True
  | (l, x) :: r => look σ l = x ∧ agree σ r

theorem agree_append {σ : St} : ∀ {r r' : List (Loc × Val)}, agree σ (r ++ r') ↔ agree σ r ∧ agree σ r'
  | [], _ => by simp [agree]
  | (l, x) :: r, r' => by simp [agree, agree_append (r := r), and_assoc]

/-- An operand comes to this. -/
def EvR (x : Operand) (m : M) (rd : List (Loc × Val)) : Prop := ∀ (E : Env) (τ : Tie) (σ : St) (a : Act) (w : World), agree σ rd → SimAt E τ σ a w → RepM w (E.S τ) τ m (a.eval x)

theorem EvR.tmp {t : Nat} {m : M} : EvR (.tmp t) m [(.tmp t, .m m)] := by
  intro E τ σ a w hr h
  have := h.get (.tmp t)
  rw [hr.1] at this
  exact this
theorem EvR.const {v : Value} (hv : plain v = true) : EvR (.const v) (.one (.t (.v v))) [] := fun _ _ _ _ _ _ _ => .v hv
theorem EvR.func {f : FuncId} : EvR (.func f) (.one (.fn f [])) [] := fun _ _ _ _ _ _ _ => by simp [RepM, RepC, Act.eval]

theorem EvR.val {x : Operand} {v : Value} {rd : List (Loc × Val)} (h : EvR x (.one (.t (.v v))) rd) {E : Env} {τ : Tie} {σ : St} {a : Act} {w : World} (hr : agree σ rd) (hs : SimAt E τ σ a w) : a.eval x = v := by
  have := h E τ σ a w hr hs
  generalize a.eval x = u at this
  cases (show RepT w _ (.v v) u from this)
  rfl

/-- The operation, from whatever state that agrees with what it reads, comes to the state with what it writes. -/
def LCore (P : Program) (N : Nat) (o : Oper) (rd wr : List (Loc × Val)) (nw : List Nat) : Prop :=
  ∀ (E : Env) (σ : St), E.N = N → agree σ rd → (∀ n ∈ nw, Fresh n σ) → ∀ (K : Act → World → Prop) (Q : Exit → Act → World → Prop) (a : Act) (w : World), Sim E σ a w →
    (∀ a' w', Sim E (wr ++ σ) a' w' → K a' w') → o.wp P a w K Q

section
variable {P : Program} {N : Nat} {o : Oper}

theorem wp_value {a : Act} {w w' : World} {v : Value} {K : Act → World → Prop} {Q : Exit → Act → World → Prop} (h : (execOp a.eval o).run P w = .ok (.value v) w') (hk : K (a.put o.dst v) w') : o.wp P a w K Q := by
  unfold Oper.wp
  rw [h]
  exact hk
theorem wp_skipped {a : Act} {w w' : World} {K : Act → World → Prop} {Q : Exit → Act → World → Prop} (h : (execOp a.eval o).run P w = .ok .skip w') (hk : K (a.put o.dst undef) w') : o.wp P a w K Q := by
  unfold Oper.wp
  rw [h]
  exact hk

/-- A value that hangs on the operands alone; the world stays. -/
theorem c_pure {d : Nat} {m : M} {rd : List (Loc × Val)} (hd : o.dst = some d) (hN : d < N)
    (h : ∀ (E : Env) (τ : Tie) (σ : St) (a : Act) (w : World), agree σ rd → SimAt E τ σ a w → ∃ v, (execOp a.eval o).run P w = .ok (.value v) w ∧ RepM w (E.S τ) τ m v) : LCore P N o rd [(.tmp d, .m m)] [] := by
  rintro E σ rfl hr _ K Q a w ⟨τ, hs⟩ hk
  obtain ⟨v, hv, hm⟩ := h E τ σ a w hr hs
  refine wp_value hv ?_
  rw [hd]
  exact hk _ _ ⟨τ, hs.put hN hm⟩

theorem c_move {d : Nat} {x : Operand} {m : M} {rd : List (Loc × Val)} (ho : o.op = .move x) (hd : o.dst = some d) (hN : d < N) (hx : EvR x m rd) : LCore P N o rd [(.tmp d, .m m)] [] :=
  c_pure hd hN fun E τ σ a w hr hs => ⟨_, by simp only [execOp, ho]; rfl, hx E τ σ a w hr hs⟩
theorem c_assign {d : Nat} {x : Operand} {m : M} {rd : List (Loc × Val)} (ho : o.op = .assign x) (hd : o.dst = some d) (hN : d < N) (hx : EvR x m rd) : LCore P N o rd [(.tmp d, .m m)] [] :=
  c_pure hd hN fun E τ σ a w hr hs => ⟨_, by simp only [execOp, ho]; rfl, hx E τ σ a w hr hs⟩

theorem run_value {α : Type} {s : Sem α} {w w' : World} {v : α} (f : α → Next) (h : s.run P w = .ok v w') : (do let x ← s; pure (f x) : Sem Next).run P w = .ok (f v) w' := by
  simp [h]

theorem c_binop {d : Nat} {op : BinOp} {t t2 : TypeId} {x y : Operand} {u v r : Value} {rx ry : List (Loc × Val)} (ho : o.op = .binOp op t x y t2) (hd : o.dst = some d) (hN : d < N)
    (hx : EvR x (.one (.t (.v u))) rx) (hy : EvR y (.one (.t (.v v))) ry) (hp : plain r = true)
    (hb : ∀ w, (do eqGuard op t x y u v; binOp op t u v : Sem Value).run P w = .ok r w) : LCore P N o (rx ++ ry) [(.tmp d, .m (.one (.t (.v r))))] [] :=
  c_pure hd hN fun E τ σ a w hr hs => ⟨r, by
    simp only [execOp, ho]
    rw [hx.val (agree_append.1 hr).1 hs, hy.val (agree_append.1 hr).2 hs]
    exact run_value _ (hb w), .v hp⟩
theorem c_unop {d : Nat} {op : UnOp} {t : TypeId} {x : Operand} {u r : Value} {rx : List (Loc × Val)} (ho : o.op = .unOp op t x) (hd : o.dst = some d) (hN : d < N)
    (hx : EvR x (.one (.t (.v u))) rx) (hp : plain r = true) (hb : ∀ w, (Op.unary op u).run P w = .ok r w) : LCore P N o rx [(.tmp d, .m (.one (.t (.v r))))] [] :=
  c_pure hd hN fun E τ σ a w hr hs => ⟨r, by
    simp only [execOp, ho]
    rw [hx.val hr hs]
    exact run_value _ (hb w), .v hp⟩
theorem c_convert {d : Nat} {t1 t2 : TypeId} {x : Operand} {u r : Value} {rx : List (Loc × Val)} (ho : o.op = .convert t1 t2 x) (hd : o.dst = some d) (hN : d < N)
    (hx : EvR x (.one (.t (.v u))) rx) (hp : plain r = true) (hb : ∀ w, (convert t1 t2 u).run P w = .ok r w) : LCore P N o rx [(.tmp d, .m (.one (.t (.v r))))] [] :=
  c_pure hd hN fun E τ σ a w hr hs => ⟨r, by
    simp only [execOp, ho]
    rw [hx.val hr hs]
    exact run_value _ (hb w), .v hp⟩

/-! ### Addresses, loads -/
theorem run_fieldPlace {w : World} {a : Addr} {f : Field} {i : TypeInfo} (hi : P.info? f.type = some i) (h0 : i.size ≠ 0) : (fieldPlace a f).run P w = .ok (a.add f.offset) w := by
  simp [fieldPlace, sizeOf, typeInfo, hi, h0]

theorem c_fieldAddr {d : Nat} {s : TypeId} {x : Operand} {k : Nat} {fs : Array Field} {f : Field} {i : TypeInfo} {c c' : C} {rx : List (Loc × Val)} (ho : o.op = .fieldAddr s x k) (hd : o.dst = some d) (hN : d < N)
    (hs : P.underlying s = some (.struct fs)) (hf : fs[k]? = some f) (hi : P.info? f.type = some i) (h0 : i.size ≠ 0) (hx : EvR x (.one c) rx)
    (hc : match c with
      | .ptr n off => c' = .ptr n (off + f.offset)
      | .eptr n sz e j => c' = .eptr n sz e (j + f.offset)
      | .tptr cs off => c' = .tptr cs (off + f.offset)
      | _ => False) : LCore P N o rx [(.tmp d, .m (.one c'))] [] :=
  c_pure hd hN fun E τ σ a w hr hsim => by
    have hv := hx E τ σ a w hr hsim
    have key : ∀ ad : Addr, a.eval x = .pointer (some ad) → (execOp a.eval o).run P w = .ok (.value (.pointer (some (ad.add f.offset)))) w := fun ad he => by
      simp only [execOp, ho, he]
      refine run_value (fun x => Next.value x) ?_
      simp [Instr.fieldAt, run_underlying hs, hf, Instr.sureAddr, run_fieldPlace hi h0]
    cases c with
    | ptr n off =>
      subst hc
      exact ⟨_, key _ hv, by simp only [RepM, RepC, Addr.add]; split <;> simp_all⟩
    | eptr n sz e j =>
      subst hc
      obtain ⟨b, hb, he⟩ := hv
      exact ⟨_, key _ he, b, hb, by simp only [Addr.add]; split <;> simp_all [Nat.add_assoc]⟩
    | tptr cs off =>
      subst hc
      obtain ⟨ad, he, hcs⟩ := hv
      exact ⟨_, key _ he, ad, by rw [add_add], hcs⟩
    | t _ => exact hc.elim
    | row _ => exact hc.elim
    | fn _ _ => exact hc.elim
    | tight _ => exact hc.elim
    | seg _ _ _ _ => exact hc.elim

theorem c_indexAddr {d : Nat} {t e : TypeId} {x y : Operand} {es : List (List T)} {cs : List T} {k : IntKind} {n : Int} {i : TypeInfo} {rx ry : List (Loc × Val)} (ho : o.op = .indexAddr t x y) (hd : o.dst = some d) (hN : d < N)
    (ht : P.underlying t = some (.slice e)) (hi : P.info? e = some i) (hx : EvR x (.one (.t (.sl es))) rx) (hy : EvR y (.one (.t (.v (.int k n)))) ry)
    (h0 : 0 ≤ n) (hn : es[n.toNat]? = some cs) (hl : cs.length = i.size) : LCore P N o (rx ++ ry) [(.tmp d, .m (.one (.tptr cs 0)))] [] :=
  c_pure hd hN fun E τ σ a w hr hs => by
    have hv : RepT w (E.S τ) (.sl es) (a.eval x) := hx E τ σ a w (agree_append.1 hr).1 hs
    have hlt := (List.getElem?_eq_some_iff.1 hn).1
    generalize hu : a.eval x = u at hv
    cases hv with
    | nil => simp at hlt
    | @sl _ m c ad vs sz hm hc hcm hz hS hsz hcell hrep =>
      subst hm
      have hsz' : sz = i.size := (hsz cs (List.mem_of_getElem? hn)).symm.trans hl
      refine ⟨.pointer (some (ad.add (n.toNat * i.size))), ?_, ad.add (n.toNat * i.size), by rw [add_add, Nat.add_zero], fun j t hj => ?_⟩
      · simp only [execOp, ho, hu, hy.val (agree_append.1 hr).2 hs]
        refine run_value (fun x => Next.value x) ?_
        have : n < (es.length : Int) := by omega
        simp [Instr.indexAt, asIntOf, run_underlying ht, h0, this, sizeOf, typeInfo, hi]
      · rw [block_add, add_add, ← hsz']
        exact ⟨hS, _, hcell _ cs j t hn hj, hrep _ cs j t hn hj⟩

theorem c_indexAddrRow {d : Nat} {t e : TypeId} {x y : Operand} {r e' sz : Nat} {es : List (List T)} {k : IntKind} {n : Int} {i : TypeInfo} {rx ry : List (Loc × Val)} (ho : o.op = .indexAddr t x y) (hd : o.dst = some d) (hN : d < N)
    (ht : P.underlying t = some (.slice e)) (hi : P.info? e = some i) (hx : EvR x (.one (.row r)) rx) (hy : EvR y (.one (.t (.v (.int k n)))) ry)
    (h0 : 0 ≤ n) (hn : n.toNat < es.length) (hl : sz = i.size) : LCore P N o (rx ++ ry ++ [(.row r, .r e' sz es)]) [(.tmp d, .m (.one (.eptr r sz n.toNat 0)))] [] :=
  c_pure hd hN fun E τ σ a w hr hs => by
    obtain ⟨hr1, hr2⟩ := agree_append.1 hr
    have hv : a.eval x = τ.ν r := (hx E τ σ a w (agree_append.1 hr1).1 hs).1
    have hrow := hs.get (.row r)
    rw [hr2.1] at hrow
    obtain ⟨_, _, _, _, xs, ho', _⟩ := hrow
    rcases ho'.2 with ⟨_, hnil⟩ | ⟨g, cap, cur, hg, _⟩
    · omega
    · refine ⟨.pointer (some ⟨g, n.toNat * sz, none⟩), ?_, g, by rw [hg]; rfl, rfl⟩
      simp only [execOp, ho, hv, hg, hy.val (agree_append.1 hr1).2 hs]
      refine run_value (fun x => Next.value x) ?_
      have : n < (es.length : Int) := by omega
      have ha : (⟨g, 0, none⟩ : Addr).add (n.toNat * i.size) = ⟨g, n.toNat * sz, none⟩ := by unfold Addr.add; rw [hl]; split <;> simp_all
      simp [Instr.indexAt, asIntOf, run_underlying ht, h0, this, sizeOf, typeInfo, hi, ha]

theorem run_load1 {w : World} {t : TypeId} {ad : Addr} {u : Value} (hag : ∀ w, (isAgg t).run P w = .ok false w) (hu : w.cell? ad = some u) : (Instr.loadAt t (.pointer (some ad))).run P w = .ok u w := by
  simp [Instr.loadAt, Instr.sureAddr, loadVar, hag, run_load, hu]

/-- A load of one cell. -/
theorem c_loadCell {d : Nat} {t : TypeId} {x : Operand} {n off : Nat} {c : C} {rx : List (Loc × Val)} (ho : o.op = .load t x) (hd : o.dst = some d) (hN : d < N) (hag : ∀ w, (isAgg t).run P w = .ok false w)
    (hx : EvR x (.one (.ptr n off)) rx) : LCore P N o (rx ++ [(.cell n off, .c c)]) [(.tmp d, .m (.one c))] [] :=
  c_pure hd hN fun E τ σ a w hr hs => by
    obtain ⟨hr1, hr2⟩ := agree_append.1 hr
    have hv : a.eval x = .pointer (some ⟨τ.β n, off, none⟩) := hx E τ σ a w hr1 hs
    have hc := hs.get (.cell n off)
    rw [hr2.1] at hc
    obtain ⟨_, _, _, u, hu, hrep⟩ := hc
    exact ⟨u, by simp only [execOp, ho, hv]; exact run_value (fun x => Next.value x) (run_load1 hag hu), hrep⟩
theorem c_loadTree {d : Nat} {t : TypeId} {x : Operand} {cs : List T} {off : Nat} {tr : T} {rx : List (Loc × Val)} (ho : o.op = .load t x) (hd : o.dst = some d) (hN : d < N) (hag : ∀ w, (isAgg t).run P w = .ok false w)
    (hx : EvR x (.one (.tptr cs off)) rx) (ht : cs[off]? = some tr) : LCore P N o rx [(.tmp d, .m (.one (.t tr)))] [] :=
  c_pure hd hN fun E τ σ a w hr hs => by
    obtain ⟨ad, hv, hc⟩ := hx E τ σ a w hr hs
    obtain ⟨_, u, hu, hrep⟩ := hc off tr ht
    exact ⟨u, by simp only [execOp, ho, hv]; exact run_value (fun x => Next.value x) (run_load1 hag hu), hrep⟩
theorem c_loadRow {d : Nat} {t : TypeId} {x : Operand} {r e sz i j : Nat} {es : List (List T)} {cs : List T} {tr : T} {rx : List (Loc × Val)} (ho : o.op = .load t x) (hd : o.dst = some d) (hN : d < N) (hag : ∀ w, (isAgg t).run P w = .ok false w)
    (hx : EvR x (.one (.eptr r sz i j)) rx) (hi : es[i]? = some cs) (ht : cs[j]? = some tr) : LCore P N o (rx ++ [(.row r, .r e sz es)]) [(.tmp d, .m (.one (.t tr)))] [] :=
  c_pure hd hN fun E τ σ a w hr hs => by
    obtain ⟨hr1, hr2⟩ := agree_append.1 hr
    obtain ⟨b, hb, hv⟩ := hx E τ σ a w hr1 hs
    have hrow := hs.get (.row r)
    rw [hr2.1] at hrow
    obtain ⟨_, _, _, _, xs, ho', hrep⟩ := hrow
    obtain ⟨u, hu, ht'⟩ := hrep i cs j tr hi ht
    have hcell := ho'.cells hb _ _ hu
    have ha : (⟨b, 0, none⟩ : Addr).add (i * sz + j) = ⟨b, i * sz + j, none⟩ := by unfold Addr.add; split <;> simp_all
    rw [ha] at hcell
    exact ⟨u, by simp only [execOp, ho, hv]; exact run_value (fun x => Next.value x) (run_load1 hag hcell), ht'⟩

/-! ### Several cells at once -/
theorem cells_choose {w : World} {ad : Addr} {α : Type} {R : α → Value → Prop} (cs : List α) (h : ∀ (j : Nat) (c : α), cs[j]? = some c → ∃ u, w.cell? (ad.add j) = some u ∧ R c u) :
    ∃ vs : List Value, vs.length = cs.length ∧ (∀ (j : Nat) (v : Value), vs[j]? = some v → w.cell? (ad.add j) = some v) ∧ ∀ (j : Nat) (c : α), cs[j]? = some c → ∃ u, vs[j]? = some u ∧ R c u := by
  refine ⟨(List.range cs.length).map fun j => (w.cell? (ad.add j)).getD undef, by simp, fun j v hv => ?_, fun j c hc => ?_⟩
  · have hj : j < cs.length := by simpa using (List.getElem?_eq_some_iff.1 hv).1
    obtain ⟨u, hu, _⟩ := h j _ (List.getElem?_eq_getElem hj)
    rw [List.getElem?_map, List.getElem?_range hj, Option.map_some, hu, Option.getD_some] at hv
    rw [hu, hv]
  · have hj : j < cs.length := (List.getElem?_eq_some_iff.1 hc).1
    obtain ⟨u, hu, hr⟩ := h j c hc
    exact ⟨u, by rw [List.getElem?_map, List.getElem?_range hj, Option.map_some, hu, Option.getD_some], hr⟩

theorem run_loadN {w : World} {t : TypeId} {ad : Addr} {vs : List Value} {i : TypeInfo} (hag : ∀ w, (isAgg t).run P w = .ok true w) (hi : P.info? t = some i) (hl : vs.length = i.size) (hc : ∀ (j : Nat) (v : Value), vs[j]? = some v → w.cell? (ad.add j) = some v) :
    (Instr.loadAt t (.pointer (some ad))).run P w = .ok (.agg vs.toArray) w := by
  have := run_loadCells_list (P := P) w ad vs hc
  rw [hl] at this
  simp [Instr.loadAt, Instr.sureAddr, loadVar, hag, sizeOf, typeInfo, hi, this]

theorem agree_cellsAt {σ : St} {n : Nat} : ∀ {cs : List C} {off : Nat}, agree σ (cellsAt n off cs) → ∀ (j : Nat) (c : C), cs[j]? = some c → look σ (.cell n (off + j)) = .c c
  | [], _, _, _, _, h => by simp at h
  | c :: r, off, hr, j, c', h => by
    cases j with
    | zero => simp only [List.getElem?_cons_zero, Option.some.injEq] at h; subst h; exact hr.1
    | succ j =>
      simp only [List.getElem?_cons_succ] at h
      have := agree_cellsAt hr.2 j c' h
      rwa [show off + (j + 1) = off + 1 + j by omega]

theorem c_loadBox {d : Nat} {t : TypeId} {x : Operand} {n off : Nat} {cs : List C} {i : TypeInfo} {rx : List (Loc × Val)} (ho : o.op = .load t x) (hd : o.dst = some d) (hN : d < N) (hag : ∀ w, (isAgg t).run P w = .ok true w)
    (hi : P.info? t = some i) (hl : cs.length = i.size) (hx : EvR x (.one (.ptr n off)) rx) : LCore P N o (rx ++ cellsAt n off cs) [(.tmp d, .m (.agg cs))] [] :=
  c_pure hd hN fun E τ σ a w hr hs => by
    obtain ⟨hr1, hr2⟩ := agree_append.1 hr
    have hv : a.eval x = .pointer (some ⟨τ.β n, off, none⟩) := hx E τ σ a w hr1 hs
    have hadd : ∀ j, (⟨τ.β n, off, none⟩ : Addr).add j = ⟨τ.β n, off + j, none⟩ := fun j => by unfold Addr.add; split <;> simp_all
    obtain ⟨vs, hvl, hvc, hvr⟩ := cells_choose (w := w) (ad := ⟨τ.β n, off, none⟩) (R := RepC w (E.S τ) τ) cs (fun j c hj => by
      have hc := hs.get (.cell n (off + j))
      rw [agree_cellsAt hr2 j c hj] at hc
      obtain ⟨_, _, _, u, hu, hrep⟩ := hc
      exact ⟨u, by rw [hadd]; exact hu, hrep⟩)
    exact ⟨.agg vs.toArray, by simp only [execOp, ho, hv]; exact run_value (fun x => Next.value x) (run_loadN hag hi (hvl.trans hl) hvc), vs.toArray, rfl, hvl.symm, hvr⟩
theorem c_loadTrees {d : Nat} {t : TypeId} {x : Operand} {cs : List T} {off k : Nat} {i : TypeInfo} {rx : List (Loc × Val)} (ho : o.op = .load t x) (hd : o.dst = some d) (hN : d < N) (hag : ∀ w, (isAgg t).run P w = .ok true w)
    (hi : P.info? t = some i) (hk : k = i.size) (hl : off + k ≤ cs.length) (hx : EvR x (.one (.tptr cs off)) rx) : LCore P N o rx [(.tmp d, .m (.agg (((cs.drop off).take k).map C.t)))] [] :=
  c_pure hd hN fun E τ σ a w hr hs => by
    obtain ⟨ad, hv, hc⟩ := hx E τ σ a w hr hs
    obtain ⟨vs, hvl, hvc, hvr⟩ := cells_choose (w := w) (ad := ad.add off) (R := RepC w (E.S τ) τ) (((cs.drop off).take k).map C.t) (fun j c hj => by
      have hjk : j < k := by
        have := (List.getElem?_eq_some_iff.1 hj).1
        simp at this; omega
      rw [List.getElem?_map, List.getElem?_take, if_pos hjk, List.getElem?_drop] at hj
      cases hcs : cs[off + j]? with
      | none => rw [hcs] at hj; simp at hj
      | some tr =>
        rw [hcs] at hj
        simp only [Option.map_some, Option.some.injEq] at hj
        subst hj
        obtain ⟨_, u, hu, hrep⟩ := hc _ tr hcs
        exact ⟨u, by rw [add_add]; exact hu, hrep⟩)
    have hvl' : vs.length = i.size := by rw [hvl]; simp; omega
    exact ⟨.agg vs.toArray, by simp only [execOp, ho, hv]; exact run_value (fun x => Next.value x) (run_loadN hag hi hvl' hvc), vs.toArray, rfl, hvl.symm, hvr⟩
theorem c_loadRowN {d : Nat} {t : TypeId} {x : Operand} {r e sz i0 j0 k : Nat} {es : List (List T)} {cs : List T} {i : TypeInfo} {rx : List (Loc × Val)} (ho : o.op = .load t x) (hd : o.dst = some d) (hN : d < N) (hag : ∀ w, (isAgg t).run P w = .ok true w)
    (hi : P.info? t = some i) (hk : k = i.size) (he : es[i0]? = some cs) (hl : j0 + k ≤ cs.length) (hx : EvR x (.one (.eptr r sz i0 j0)) rx) : LCore P N o (rx ++ [(.row r, .r e sz es)]) [(.tmp d, .m (.agg (((cs.drop j0).take k).map C.t)))] [] :=
  c_pure hd hN fun E τ σ a w hr hs => by
    obtain ⟨hr1, hr2⟩ := agree_append.1 hr
    obtain ⟨b, hb, hv⟩ := hx E τ σ a w hr1 hs
    have hrow := hs.get (.row r)
    rw [hr2.1] at hrow
    obtain ⟨_, _, _, _, xs, ho', hrep⟩ := hrow
    obtain ⟨vs, hvl, hvc, hvr⟩ := cells_choose (w := w) (ad := ⟨b, i0 * sz + j0, none⟩) (R := RepC w (E.S τ) τ) (((cs.drop j0).take k).map C.t) (fun j c hj => by
      have hjk : j < k := by
        have := (List.getElem?_eq_some_iff.1 hj).1
        simp at this; omega
      rw [List.getElem?_map, List.getElem?_take, if_pos hjk, List.getElem?_drop] at hj
      cases hcs : cs[j0 + j]? with
      | none => rw [hcs] at hj; simp at hj
      | some tr =>
        rw [hcs] at hj
        simp only [Option.map_some, Option.some.injEq] at hj
        subst hj
        obtain ⟨u, hu, ht'⟩ := hrep i0 cs _ tr he hcs
        have hcell := ho'.cells hb _ _ hu
        have ha : (⟨b, 0, none⟩ : Addr).add (i0 * sz + (j0 + j)) = (⟨b, i0 * sz + j0, none⟩ : Addr).add j := by unfold Addr.add; split <;> split <;> simp_all <;> omega
        rw [ha] at hcell
        exact ⟨u, hcell, ht'⟩)
    have hvl' : vs.length = i.size := by rw [hvl]; simp; omega
    exact ⟨.agg vs.toArray, by simp only [execOp, ho, hv]; exact run_value (fun x => Next.value x) (run_loadN hag hi hvl' hvc), vs.toArray, rfl, hvl.symm, hvr⟩

/-! ### Stores -/
theorem run_storeVar1 {w : World} {t : TypeId} {ad : Addr} {v u : Value} {i : TypeInfo} (hi : P.info? t = some i) (h1 : i.size = 1) (hv : v.oneCell' = true) (hu : w.cell? ad = some u) (hf : w.frozen? ad = false) :
    (Instr.storeAt t (.pointer (some ad)) v).run P w = .ok () (w.setCell ad v) := by
  have hc : v.cells = #[v] := by cases v <;> first | rfl | (simp [Value.oneCell'] at hv)
  have hs : (store (ad.add 0) v).run P w = .ok () (w.setCell ad v) := by
    rw [show ad.add 0 = ad from rfl, run_store P w ad v .plain hv, hu]
    simp [hf]
  simp [Instr.storeAt, Instr.sureAddr, storeVar, sizeOf, typeInfo, hi, h1, hc, storeCells, hs]

theorem run_unit {s : Sem Unit} {w w' : World} (h : s.run P w = .ok () w') : (do s; pure Next.skip : Sem Next).run P w = .ok .skip w' := by
  simp [h]

theorem c_store {t : TypeId} {x y : Operand} {n off : Nat} {c0 c : C} {i : TypeInfo} {rx ry : List (Loc × Val)} (ho : o.op = .store t x y) (hd : o.dst = none) (hi : P.info? t = some i) (h1 : i.size = 1)
    (hx : EvR x (.one (.ptr n off)) rx) (hy : EvR y (.one c) ry) : LCore P N o (rx ++ ry ++ [(.cell n off, .c c0)]) [(.cell n off, .c c)] [] := by
  rintro E σ rfl hr _ K Q a w ⟨τ, hs⟩ hk
  obtain ⟨hr1, hr2⟩ := agree_append.1 hr
  have hv : a.eval x = .pointer (some ⟨τ.β n, off, none⟩) := hx E τ σ a w (agree_append.1 hr1).1 hs
  have hc := hs.get (.cell n off)
  rw [hr2.1] at hc
  obtain ⟨_, _, hf, u, hu, _⟩ := hc
  have hrep : RepC w (E.S τ) τ c (a.eval y) := hy E τ σ a w (agree_append.1 hr1).2 hs
  refine wp_skipped (w' := w.setCell ⟨τ.β n, off, none⟩ (a.eval y)) ?_ ?_
  · simp only [execOp, ho, hv]
    exact run_unit (run_storeVar1 hi h1 hrep.one hu hf)
  · rw [hd]
    exact hk _ _ ⟨τ, hs.store hr2.1 hrep⟩

theorem c_storeRow {t : TypeId} {x y : Operand} {r e sz i0 j0 : Nat} {es : List (List T)} {cs : List T} {tr : T} {i : TypeInfo} {rx ry : List (Loc × Val)} (ho : o.op = .store t x y) (hd : o.dst = none) (hi : P.info? t = some i) (h1 : i.size = 1)
    (he : es[i0]? = some cs) (hj : j0 < cs.length) (hx : EvR x (.one (.eptr r sz i0 j0)) rx) (hy : EvR y (.one (.t tr)) ry) : LCore P N o (rx ++ ry ++ [(.row r, .r e sz es)]) [(.row r, .r e sz (es.set i0 (cs.set j0 tr)))] [] := by
  rintro E σ rfl hr _ K Q a w ⟨τ, hs⟩ hk
  obtain ⟨hr1, hr2⟩ := agree_append.1 hr
  obtain ⟨b, hb, hv⟩ := hx E τ σ a w (agree_append.1 hr1).1 hs
  have hrow := hs.get (.row r)
  rw [hr2.1] at hrow
  obtain ⟨_, _, _, hsz, xs, ho', hrep'⟩ := hrow
  have hrep : RepT w (E.S τ) tr (a.eval y) := hy E τ σ a w (agree_append.1 hr1).2 hs
  have hj' : j0 < sz := by rw [← hsz cs (List.mem_of_getElem? he)]; exact hj
  obtain ⟨u, hu, _⟩ := hrep' i0 cs j0 _ he (List.getElem?_eq_getElem hj)
  have hcell := ho'.cells hb _ _ hu
  have ha : (⟨b, 0, none⟩ : Addr).add (i0 * sz + j0) = ⟨b, i0 * sz + j0, none⟩ := by unfold Addr.add; split <;> simp_all
  rw [ha] at hcell
  have hf : w.frozen? ⟨b, i0 * sz + j0, none⟩ = false := by
    rcases ho'.2 with ⟨hz, _⟩ | ⟨g, cap, cur, hz, _⟩
    · rw [hz] at hb; simp [Value.ownBlock] at hb
    · have hg : g = b := by rw [hz] at hb; simpa [Value.ownBlock] using hb
      subst hg
      rw [hz] at ho'
      exact ho'.frozenAt _
  refine wp_skipped (w' := w.setCell ⟨b, i0 * sz + j0, none⟩ (a.eval y)) ?_ ?_
  · simp only [execOp, ho, hv]
    exact run_unit (run_storeVar1 hi h1 hrep.one hcell hf)
  · rw [hd]
    exact hk _ _ ⟨τ, hs.rowStore hr2.1 he hj' hrep hb⟩

/-- A store of several cells into a box. -/
def setsAt (n : Nat) : Nat → List C → St → St
  | _, [], σ => σ
  | j, c :: r, σ => setsAt n (j + 1) r ((.cell n j, .c c) :: σ)

theorem SimAt.stores {E : Env} {τ : Tie} {a : Act} {n off : Nat} : ∀ (cs : List C) (vs : List Value) (i : Nat) (σ : St) (w : World), SimAt E τ σ a w → (∀ j, j < cs.length → ∃ c0, look σ (.cell n (off + i + j)) = .c c0) → RepCs w (E.S τ) τ cs vs →
    ∃ w', (storeCells ⟨τ.β n, off, none⟩ vs i).run P w = .ok () w' ∧ SimAt E τ (setsAt n (off + i) cs σ) a w'
  | [], vs, i, σ, w, h, _, hr => by
    obtain rfl : vs = [] := List.eq_nil_of_length_eq_zero hr.1.symm
    exact ⟨w, rfl, h⟩
  | c :: r, vs, i, σ, w, h, hl, hr => by
    cases vs with
    | nil => have := hr.1; simp at this
    | cons v vs =>
      obtain ⟨c0, h0⟩ := hl 0 (by simp)
      rw [Nat.add_zero] at h0
      have hrep : RepC w (E.S τ) τ c v := by
        obtain ⟨u, hu, hx⟩ := hr.2 0 c rfl
        simp only [List.getElem?_cons_zero, Option.some.injEq] at hu
        rw [hu]; exact hx
      have hc := h.get (.cell n (off + i))
      rw [h0] at hc
      obtain ⟨hκ, hρ, hf, u, hu, _⟩ := hc
      have h' := h.store h0 hrep
      have hs : ∀ k, k < w.heap.size → (E.S τ) k → (E.S τ) k ∧ (w.setCell ⟨τ.β n, off + i, none⟩ v).heap[k]? = w.heap[k]? := fun k _ hk => ⟨hk, Below.heap_setCell w _ v k (fun e => hk.2 n (by rw [e]; exact hρ))⟩
      obtain ⟨w', hrun, hsim⟩ := SimAt.stores r vs (i + 1) _ _ h' (fun j hj => by
        obtain ⟨c1, h1⟩ := hl (j + 1) (by simpa using hj)
        refine ⟨c1, ?_⟩
        have hne : Loc.cell n (off + i) ≠ Loc.cell n (off + (i + 1) + j) := by simp; omega
        rw [look_cons_ne _ _ hne, ← h1, show off + (i + 1) + j = off + i + (j + 1) by omega]) (by
          refine (show RepCs w (E.S τ) τ r vs from ⟨by have := hr.1; simpa using this, fun j c' hj => ?_⟩).step hs (fun _ _ => ⟨rfl, rfl⟩)
          obtain ⟨u, hu, hx⟩ := hr.2 (j + 1) c' (by simpa using hj)
          exact ⟨u, by simpa using hu, hx⟩)
      refine ⟨w', ?_, by rw [show off + (i + 1) = off + i + 1 by omega] at hsim; exact hsim⟩
      have hadd : (⟨τ.β n, off, none⟩ : Addr).add i = ⟨τ.β n, off + i, none⟩ := by unfold Addr.add; split <;> simp_all
      have hst : (Go.store (⟨τ.β n, off + i, none⟩ : Addr) v).run P w = .ok () (w.setCell ⟨τ.β n, off + i, none⟩ v) := by
        rw [run_store P w _ v .plain hrep.one, hu]
        simp [hf]
      simp only [storeCells, hadd, Sem.run_bind, hst, Result.andThen_ok]
      exact hrun

theorem setsAt_eq (n : Nat) : ∀ (cs : List C) (j : Nat) (σ : St), setsAt n j cs σ = (cellsAt n j cs).reverse ++ σ
  | [], _, _ => rfl
  | c :: r, j, σ => by
    rw [setsAt, setsAt_eq n r (j + 1), cellsAt, List.reverse_cons, List.append_assoc]
    rfl

theorem agree_cells_some {σ : St} {n : Nat} {cs : List C} {off : Nat} (h : agree σ (cellsAt n off cs)) (j : Nat) (hj : j < cs.length) : ∃ c0, look σ (.cell n (off + j)) = .c c0 := ⟨_, agree_cellsAt h j _ (List.getElem?_eq_getElem hj)⟩

theorem c_storeBox {t : TypeId} {x y : Operand} {n off : Nat} {cs0 cs : List C} {i : TypeInfo} {rx ry : List (Loc × Val)} (ho : o.op = .store t x y) (hd : o.dst = none) (hi : P.info? t = some i) (hl : cs.length = i.size) (hl0 : cs0.length = cs.length)
    (hx : EvR x (.one (.ptr n off)) rx) (hy : EvR y (.agg cs) ry) : LCore P N o (rx ++ ry ++ cellsAt n off cs0) (cellsAt n off cs).reverse [] := by
  rintro E σ rfl hr _ K Q a w ⟨τ, hs⟩ hk
  obtain ⟨hr1, hr2⟩ := agree_append.1 hr
  have hv : a.eval x = .pointer (some ⟨τ.β n, off, none⟩) := hx E τ σ a w (agree_append.1 hr1).1 hs
  obtain ⟨vs, he, hrep⟩ := hy E τ σ a w (agree_append.1 hr1).2 hs
  obtain ⟨w', hrun, hsim⟩ := SimAt.stores (P := P) (n := n) (off := off) cs vs.toList 0 σ w hs (fun j hj => by
    rw [Nat.add_zero]
    exact agree_cells_some hr2 j (by omega)) hrep
  rw [Nat.add_zero, setsAt_eq] at hsim
  refine wp_skipped (w' := w') ?_ ?_
  · simp only [execOp, ho, hv, he]
    refine run_unit ?_
    have hsz : vs.size = i.size := by have := hrep.1; simp at this; omega
    simp [Instr.storeAt, Instr.sureAddr, storeVar, sizeOf, typeInfo, hi, Value.cells, hsz, hrun]
  · rw [hd]
    exact hk _ _ ⟨τ, hsim⟩
end
end Go.PM
