/- A part of a layer between the model's runs and plain values: steps of code simulate plain functions; no program is named here. -/
import Derived.Test.YtidgbllladaahaaPmD
import Derived.Still
set_option linter.all false
namespace Go.PM
open Go Go.RowKit

structure Ent where
  rd : List (Loc × Val)
  wr : List (Loc × Val)
  nw : List Nat

section
variable {P : Program} {N : Nat} {ops : Array Oper}

/-- One operation of a region, its guard with it. -/
def LStep (P : Program) (N : Nat) (ops : Array Oper) (o : Oper) (e : Ent) : Prop :=
  ∀ (E : Env) (σ : St), E.N = N → agree σ e.rd → (∀ n ∈ e.nw, Fresh n σ) → ∀ (K : Act → World → Prop) (Q : Exit → Act → World → Prop) (a : Act) (w : World), Sim E σ a w →
    (∀ a' w', Sim E (e.wr ++ σ) a' w' → K a' w') → if Region.wanted o (yielded ops a.tmps) = true then o.wp P a w K Q else K (a.put o.dst undef) w

theorem LStep.plain {o : Oper} {rd wr : List (Loc × Val)} {nw : List Nat} (hg : o.guard = none) (h : LCore P N o rd wr nw) : LStep P N ops o ⟨rd, wr, nw⟩ := by
  intro E σ hN hr hf K Q a w hs hk
  rw [if_pos (by simp [Region.wanted, hg])]
  exact h E σ hN hr hf K Q a w hs hk

theorem tmp_bool {E : Env} {σ : St} {a : Act} {w : World} {t : Nat} {b : Bool} (hs : Sim E σ a w) (h : look σ (.tmp t) = .m (.one (.t (.v (.bool b))))) : a.tmps.getD t undef = .bool b := by
  obtain ⟨τ, hs⟩ := hs
  have := hs.get (.tmp t)
  rw [h] at this
  have h2 : RepT w (E.S τ) (.v (.bool b)) (a.tmps.getD t undef) := this
  generalize a.tmps.getD t undef = u at h2
  cases h2
  rfl

theorem yielded_of {a : Act} {g t : Nat} {b : Bool} (ht : (ops[g]?).bind (·.dst) = some t) (hv : a.tmps.getD t undef = .bool b) : yielded ops a.tmps g = some b := by
  have : a.tmps[t]? = some (.bool b) := by
    rw [Array.getD_eq_getD_getElem?] at hv
    cases h : a.tmps[t]? with
    | none => rw [h] at hv; simp [undef] at hv
    | some u => rw [h] at hv; simpa using hv
  simp [yielded, ht, this]

theorem LStep.on {o : Oper} {rd wr : List (Loc × Val)} {nw : List Nat} {g t : Nat} {b : Bool} (hg : o.guard = some (g, b)) (ht : (ops[g]?).bind (·.dst) = some t) (h : LCore P N o rd wr nw) :
    LStep P N ops o ⟨(.tmp t, .m (.one (.t (.v (.bool b))))) :: rd, wr, nw⟩ := by
  intro E σ hN hr hf K Q a w hs hk
  rw [if_pos (by simp [Region.wanted, hg, yielded_of ht (tmp_bool hs hr.1)])]
  exact h E σ hN hr.2 hf K Q a w hs hk

theorem SimAt.kill {E : Env} {τ : Tie} {σ : St} {a : Act} {w : World} (h : SimAt E τ σ a w) (d : Nat) (v : Value) : SimAt E τ ((.tmp d, .gone) :: σ) (a.put (some d) v) w where
  dfr := h.dfr
  nsz := by simpa [Act.put] using h.nsz
  lim := h.lim
  tie := h.tie
  os := h.os
  tape := h.tape
  output := h.output
  grow := h.grow
  keep := h.keep
  inj := h.inj
  acc := h.acc
  get l := by
    rw [look_cons]
    by_cases e : Loc.tmp d = l
    · subst e; rw [if_pos rfl]; exact trivial
    · rw [if_neg e]
      have := h.get l
      generalize look σ l = x at this ⊢
      cases x with
      | gone => cases l <;> exact trivial
      | m x => cases l with
        | tmp t =>
          have hne : d ≠ t := fun he => e (by rw [he])
          simp only [Holds] at this ⊢
          have : (a.put (some d) v).tmps.getD t undef = a.tmps.getD t undef := by
            simp only [Act.put, Array.getD_eq_getD_getElem?, Array.getElem?_setIfInBounds]
            rw [if_neg hne]
          rw [this]
          assumption
        | _ => exact this
      | _ => cases l <;> exact this

theorem rep_undef {w : World} {S : Nat → Prop} {τ : Tie} : RepM w S τ (.tup []) undef := ⟨#[], rfl, rfl, fun j b h => by simp at h⟩
theorem LStep.off {o : Oper} {g t d : Nat} {b b' : Bool} (hg : o.guard = some (g, b)) (hb : b' = !b) (ht : (ops[g]?).bind (·.dst) = some t) (hd : o.dst = some d) (hdN : d < N) :
    LStep P N ops o ⟨[(.tmp t, .m (.one (.t (.v (.bool b')))))], [(.tmp d, .m (.tup []))], []⟩ := by
  intro E σ hN hr hf K Q a w hs hk
  subst hb
  rw [if_neg (by simp [Region.wanted, hg, yielded_of ht (tmp_bool hs hr.1)])]
  obtain ⟨τ, hs⟩ := hs
  rw [hd]
  exact hk _ _ ⟨τ, hs.put (by rw [hN]; exact hdN) rep_undef⟩
theorem yielded_none {E : Env} {σ : St} {a : Act} {w : World} {g t : Nat} (hs : Sim E σ a w) (ht : (ops[g]?).bind (·.dst) = some t) (h : look σ (.tmp t) = .m (.tup [])) : yielded ops a.tmps g = none := by
  obtain ⟨τ, hs⟩ := hs
  have := hs.get (.tmp t)
  rw [h] at this
  obtain ⟨vs, hv, _⟩ : ∃ vs, a.tmps.getD t undef = .tuple vs ∧ _ := this
  unfold yielded
  rw [ht]
  show (match a.tmps[t]? with | some (.bool b) => some b | _ => none) = none
  rw [Array.getD_eq_getD_getElem?] at hv
  cases h : a.tmps[t]? with
  | none => rfl
  | some u =>
    rw [h] at hv
    simp only [Option.getD_some] at hv
    rw [hv]
theorem LStep.offU {o : Oper} {g t d : Nat} {b : Bool} (hg : o.guard = some (g, b)) (ht : (ops[g]?).bind (·.dst) = some t) (hd : o.dst = some d) (hdN : d < N) :
    LStep P N ops o ⟨[(.tmp t, .m (.tup []))], [(.tmp d, .m (.tup []))], []⟩ := by
  intro E σ hN hr hf K Q a w hs hk
  rw [if_neg (by simp [Region.wanted, hg, yielded_none hs ht hr.1])]
  obtain ⟨τ, hs⟩ := hs
  rw [hd]
  exact hk _ _ ⟨τ, hs.put (by rw [hN]; exact hdN) rep_undef⟩
theorem LStep.offU0 {o : Oper} {g t : Nat} {b : Bool} (hg : o.guard = some (g, b)) (ht : (ops[g]?).bind (·.dst) = some t) (hd : o.dst = none) :
    LStep P N ops o ⟨[(.tmp t, .m (.tup []))], [], []⟩ := by
  intro E σ hN hr hf K Q a w hs hk
  rw [if_neg (by simp [Region.wanted, hg, yielded_none hs ht hr.1])]
  rw [hd]
  exact hk _ _ hs
theorem LStep.off0 {o : Oper} {g t : Nat} {b b' : Bool} (hg : o.guard = some (g, b)) (hb : b' = !b) (ht : (ops[g]?).bind (·.dst) = some t) (hd : o.dst = none) :
    LStep P N ops o ⟨[(.tmp t, .m (.one (.t (.v (.bool b')))))], [], []⟩ := by
  intro E σ hN hr hf K Q a w hs hk
  subst hb
  rw [if_neg (by simp [Region.wanted, hg, yielded_of ht (tmp_bool hs hr.1)])]
  rw [hd]
  exact hk _ _ hs

/-! ### The text's order -/
inductive Chain (P : Program) (N : Nat) (ops : Array Oper) : List Oper → St → List Ent → St → Prop
  | nil {σ : St} : Chain P N ops [] σ [] σ
  | cons {o : Oper} {l : List Oper} {σ σ' : St} {e : Ent} {es : List Ent} (h : LStep P N ops o e) (hr : agree σ e.rd) (hf : e.nw.all (fun n => fresh n σ) = true) (hn : Chain P N ops l (e.wr ++ σ) es σ') : Chain P N ops (o :: l) σ (e :: es) σ'

theorem Chain.wpList {l : List Oper} {σ σ' : St} {es : List Ent} (h : Chain P N ops l σ es σ') {E : Env} (hN : E.N = N) {Q : Exit → Act → World → Prop} {a : Act} {w : World} (hs : Sim E σ a w) (hk : ∀ a' w', Sim E σ' a' w' → Q .normal a' w') : Go.wpList P ops Q l a w := by
  induction h generalizing a w with
  | nil => exact hk _ _ hs
  | cons h hr hf _ ih =>
    refine wpList_step fun K hK => ?_
    exact h E _ hN hr (fun n hn => .of_bool (List.all_eq_true.1 hf n hn)) K Q a w hs (fun a' w' hs' => hK a' w' (ih hs' hk))

/-! ### Any order -/
/-- The state behind the operations that are listed, in the text's order. -/
def after (D : Nat → Bool) : Nat → List Ent → St → St
  | _, [], σ => σ
  | k, e :: es, σ => after D (k + 1) es (bif D k then e.wr ++ σ else σ)

def has (l : Loc) (wr : List (Loc × Val)) : Bool := wr.any fun p => p.1.same l

theorem look_append (wr : List (Loc × Val)) (σ : St) (l : Loc) : look (wr ++ σ) l = bif has l wr then look wr l else look σ l := by
  induction wr with
  | nil => rfl
  | cons p r ih =>
    obtain ⟨k, x⟩ := p
    show (bif k.same l then x else look (r ++ σ) l) = _
    rw [ih]
    simp only [has, List.any_cons]
    cases h : k.same l with
    | true => simp [look, h]
    | false => simp [look, h]

/-- What is looked up behind the listed: the last writer's, or the start's. -/
theorem look_after (D : Nat → Bool) (l : Loc) : ∀ (es : List Ent) (k : Nat) (σ : St), (∃ i e, es[i]? = some e ∧ D (k + i) = true ∧ has l e.wr = true ∧ (∀ j e', es[j]? = some e' → D (k + j) = true → has l e'.wr = true → j ≤ i) ∧ look (after D k es σ) l = look e.wr l) ∨
    ((∀ i e, es[i]? = some e → D (k + i) = true → has l e.wr = false) ∧ look (after D k es σ) l = look σ l)
  | [], k, σ => .inr ⟨fun i e h => by simp at h, rfl⟩
  | e :: es, k, σ => by
    rcases look_after D l es (k + 1) (bif D k then e.wr ++ σ else σ) with ⟨i, e', h1, h2, h3, h4, h5⟩ | ⟨h1, h2⟩
    · refine .inl ⟨i + 1, e', by simpa using h1, by rw [show k + (i + 1) = k + 1 + i by omega]; exact h2, h3, fun j e'' hj hD hh => ?_, h5⟩
      cases j with
      | zero => omega
      | succ j =>
        have := h4 j e'' (by simpa using hj) (by rw [show k + 1 + j = k + (j + 1) by omega]; exact hD) hh
        omega
    · have hn : ∀ i e', es[i]? = some e' → D (k + (i + 1)) = true → has l e'.wr = false := fun i e' hi hD => h1 i e' hi (by rw [show k + 1 + i = k + (i + 1) by omega]; exact hD)
      cases hD : D k with
      | false =>
        refine .inr ⟨fun i e' hi hDi => ?_, by rw [after, h2, hD]; rfl⟩
        cases i with
        | zero => rw [Nat.add_zero, hD] at hDi; cases hDi
        | succ i => exact hn i e' (by simpa using hi) hDi
      | true =>
        have hlook : look (after D k (e :: es) σ) l = bif has l e.wr then look e.wr l else look σ l := by
          rw [after, h2, hD, cond_true, look_append]
        cases hh : has l e.wr with
        | true =>
          refine .inl ⟨0, e, rfl, by simpa using hD, hh, fun j e' hj hDj hhj => ?_, by rw [hlook, hh]; rfl⟩
          cases j with
          | zero => exact Nat.le_refl _
          | succ j => rw [hn j e' (by simpa using hj) hDj] at hhj; cases hhj
        | false =>
          refine .inr ⟨fun i e' hi hDi => ?_, by rw [hlook, hh]; rfl⟩
          cases i with
          | zero => simp only [List.getElem?_cons_zero, Option.some.injEq] at hi; subst hi; exact hh
          | succ i => exact hn i e' (by simpa using hi) hDi

/-- Who must have come up ahead: a mask for each. -/
def masks : List Oper → List Nat → List Nat
  | [], acc => acc
  | o :: l, acc => masks l (acc ++ [o.after.toList.foldl (fun s e => bif Region.binds .any e then s ||| 2 ^ e.on ||| acc.getD e.on 0 else s) 0])

def Anc (P : List Oper) (i j : Nat) : Bool := ((masks P []).getD j 0).testBit i

theorem masks_acc : ∀ (l : List Oper) (acc : List Nat), ∃ r, masks l acc = acc ++ r ∧ r.length = l.length
  | [], acc => ⟨[], by simp [masks], rfl⟩
  | o :: l, acc => by
    obtain ⟨r, h, hl⟩ := masks_acc l (acc ++ [o.after.toList.foldl (fun s e => bif Region.binds .any e then s ||| 2 ^ e.on ||| acc.getD e.on 0 else s) 0])
    exact ⟨_ :: r, by rw [masks, h, List.append_assoc]; rfl, by simp [hl]⟩

theorem fold_bit (acc : List Nat) (i : Nat) : ∀ (es : List Edge) (s : Nat), (es.foldl (fun s e => bif Region.binds .any e then s ||| 2 ^ e.on ||| acc.getD e.on 0 else s) s).testBit i = true →
    s.testBit i = true ∨ ∃ e ∈ es, Region.binds .any e = true ∧ (e.on = i ∨ (acc.getD e.on 0).testBit i = true)
  | [], s, h => .inl h
  | e :: es, s, h => by
    rw [List.foldl_cons] at h
    rcases fold_bit acc i es _ h with h1 | ⟨e', he', hb, h2⟩
    · cases hb : Region.binds .any e with
      | false => rw [hb] at h1; exact .inl h1
      | true =>
        rw [hb] at h1
        simp only [cond_true, Nat.testBit_or, Bool.or_eq_true, Nat.testBit_two_pow, decide_eq_true_eq] at h1
        rcases h1 with (h1 | h1) | h1
        · exact .inl h1
        · exact .inr ⟨e, by simp, hb, .inl h1⟩
        · exact .inr ⟨e, by simp, hb, .inr h1⟩
    · exact .inr ⟨e', by simp [he'], hb, h2⟩

theorem masks_spec : ∀ (l : List Oper) (acc : List Nat) (L : List Oper) (k : Nat), acc.length = k → (∀ j, l[j]? = L[k + j]?) → (∀ j, j < l.length → ∀ i, ((masks l acc).getD (k + j) 0).testBit i = true →
      ∃ o, L[k + j]? = some o ∧ ∃ e ∈ o.after, Region.binds .any e = true ∧ (e.on = i ∨ (e.on < k + j ∧ ((masks l acc).getD e.on 0).testBit i = true)))
  | [], _, _, _, _, _, j, h, _, _ => by simp at h
  | o :: l, acc, L, k, hk, hL, j, hj, i, hb => by
    let m := o.after.toList.foldl (fun s e => bif Region.binds .any e then s ||| 2 ^ e.on ||| acc.getD e.on 0 else s) 0
    have hdef : masks (o :: l) acc = masks l (acc ++ [m]) := rfl
    cases j with
    | zero =>
      obtain ⟨r, hr, _⟩ := masks_acc l (acc ++ [m])
      have hget : ∀ x, x < k → (masks (o :: l) acc).getD x 0 = acc.getD x 0 := fun x hx => by
        rw [hdef, hr, List.getD_eq_getElem?_getD, List.getElem?_append_left (by simp; omega), List.getElem?_append_left (by omega), List.getD_eq_getElem?_getD]
      have hk0 : (masks (o :: l) acc).getD (k + 0) 0 = m := by
        rw [hdef, hr, List.getD_eq_getElem?_getD, List.getElem?_append_left (by simp; omega)]
        simp [← hk]
      rw [hk0] at hb
      rcases fold_bit acc i _ _ hb with h | ⟨e, he, hbe, h⟩
      · simp at h
      · refine ⟨o, by have := hL 0; simpa using this.symm, e, by simpa using he, hbe, ?_⟩
        rcases h with h | h
        · exact .inl h
        · refine .inr ?_
          have hlt : e.on < k := by
            rcases Nat.lt_or_ge e.on k with h' | h'
            · exact h'
            · rw [List.getD_eq_getElem?_getD, List.getElem?_eq_none (by omega)] at h
              simp at h
          exact ⟨by omega, by rw [hget _ hlt]; exact h⟩
    | succ j =>
      have := masks_spec l (acc ++ [m]) L (k + 1) (by simp [hk]) (fun j => by have := hL (j + 1); rw [show k + 1 + j = k + (j + 1) by omega]; simpa using this) j (by simpa using hj) i (by rw [← hdef, show k + 1 + j = k + (j + 1) by omega]; exact hb)
      rw [show k + 1 + j = k + (j + 1) by omega] at this
      exact this

/-- What is listed is closed: who must have come up ahead has. -/
theorem anc_listed {L : List Oper} {D : Nat → Bool} (hD : ∀ j o, L[j]? = some o → D j = true → ∀ e ∈ o.after, Region.binds .any e = true → D e.on = true) {i : Nat} : ∀ j, D j = true → Anc L i j = true → D i = true := by
  intro j
  induction j using Nat.strongRecOn with
  | ind j ih =>
    intro hj ha
    unfold Anc at ha
    have hjl : j < L.length := by
      rcases Nat.lt_or_ge j L.length with h | h
      · exact h
      · obtain ⟨r, hr, hl⟩ := masks_acc L []
        rw [List.getD_eq_getElem?_getD, List.getElem?_eq_none (by rw [hr]; simp; omega)] at ha
        simp at ha
    obtain ⟨o, ho, e, he, hb, h⟩ := masks_spec L [] L 0 rfl (fun j => by simp) j hjl i (by simpa using ha)
    rw [Nat.zero_add] at ho
    have h1 := hD j o ho hj e he hb
    rcases h with h | ⟨hlt, h⟩
    · rw [← h]; exact h1
    · exact ih e.on (by omega) h1 h

/-- What is asked of a region's operations so that every order comes to the text's end. -/
structure Thin where
  rl : List Loc
  wl : List Loc
  wn : List Nat
  nw : List Nat

def Ent.lean (e : Ent) : Thin := ⟨e.rd.map (·.1), e.wr.map (·.1), e.wr.flatMap fun p => p.1.names ++ p.2.names, e.nw⟩

def meets (a b : List Loc) : Bool := a.any fun l => b.any fun k => l.same k
def speaks (a b : List Nat) : Bool := a.any fun l => b.any fun k => Nat.beq l k

/-- Pair i < j: where they clash, j waits for i. -/
def pairOk (ms : List Nat) (i j : Nat) (x y : Thin) : Bool :=
  (ms.getD j 0).testBit i || (!meets x.wl y.rl && !meets x.wl y.wl && !meets x.rl y.wl && !speaks y.nw x.wn && !speaks x.nw y.wn)

def rowOk (ms : List Nat) (i : Nat) (x : Thin) : Nat → List Thin → Bool
  | _, [] => true
  | j, y :: r => pairOk ms i j x y && rowOk ms i x (j + 1) r

def pairsOk (ms : List Nat) : Nat → List Thin → Bool
  | _, [] => true
  | i, x :: r => rowOk ms i x (i + 1) r && pairsOk ms (i + 1) r

def edgesOk : Nat → List Oper → Bool
  | _, [] => true
  | i, o :: r => (o.after.toList.all fun e => !Region.binds .any e || Nat.blt e.on i) && edgesOk (i + 1) r

theorem rowOk_spec (ms : List Nat) (i : Nat) (x : Thin) : ∀ (l : List Thin) (k : Nat), rowOk ms i x k l = true → ∀ j y, l[j]? = some y → pairOk ms i (k + j) x y = true
  | [], _, _, j, y, h => by simp at h
  | z :: r, k, h, j, y, hj => by
    simp only [rowOk, Bool.and_eq_true] at h
    cases j with
    | zero => simp only [List.getElem?_cons_zero, Option.some.injEq] at hj; subst hj; exact h.1
    | succ j => have := rowOk_spec ms i x r (k + 1) h.2 j y (by simpa using hj); rwa [show k + 1 + j = k + (j + 1) by omega] at this

theorem pairsOk_spec (ms : List Nat) : ∀ (l : List Thin) (k : Nat), pairsOk ms k l = true → ∀ i j x y, i < j → l[i]? = some x → l[j]? = some y → pairOk ms (k + i) (k + j) x y = true
  | [], _, _, i, j, x, y, _, h, _ => by simp at h
  | z :: r, k, h, i, j, x, y, hij, hi, hj => by
    simp only [pairsOk, Bool.and_eq_true] at h
    cases j with
    | zero => omega
    | succ j =>
      cases i with
      | zero =>
        simp only [List.getElem?_cons_zero, Option.some.injEq] at hi
        subst hi
        have := rowOk_spec ms k z r (k + 1) h.1 j y (by simpa using hj)
        rwa [show k + 1 + j = k + (j + 1) by omega] at this
      | succ i =>
        have := pairsOk_spec ms r (k + 1) h.2 i j x y (by omega) (by simpa using hi) (by simpa using hj)
        rwa [show k + 1 + i = k + (i + 1) by omega, show k + 1 + j = k + (j + 1) by omega] at this

theorem edgesOk_spec : ∀ (l : List Oper) (k : Nat), edgesOk k l = true → ∀ i o, l[i]? = some o → ∀ e ∈ o.after, Region.binds .any e = true → e.on < k + i
  | [], _, _, i, o, h => by simp at h
  | z :: r, k, h, i, o, hi => by
    simp only [edgesOk, Bool.and_eq_true] at h
    cases i with
    | zero =>
      simp only [List.getElem?_cons_zero, Option.some.injEq] at hi
      subst hi
      intro e he hb
      have := List.all_eq_true.1 h.1 e (by simpa using he)
      rw [hb] at this
      simp [Nat.blt] at this
      omega
    | succ i => intro e he hb; have := edgesOk_spec r (k + 1) h.2 i o (by simpa using hi) e he hb; omega

theorem meets_false {a b : List Loc} (h : meets a b = false) {l : Loc} (ha : l ∈ a) : l ∉ b := fun hb => by
  have := List.any_eq_false.1 h l ha
  simp only [List.any_eq_true, not_exists, not_and, Bool.not_eq_true] at this
  have h2 := this l hb
  rw [Loc.same_iff.2 rfl] at h2
  cases h2
theorem speaks_false {a b : List Nat} (h : speaks a b = false) {l : Nat} (ha : l ∈ a) : l ∉ b := fun hb => by
  have := List.any_eq_false.1 h l ha
  simp only [List.any_eq_true, not_exists, not_and, Bool.not_eq_true] at this
  have h2 := this l hb
  simp at h2
theorem has_iff {l : Loc} {wr : List (Loc × Val)} : has l wr = true ↔ l ∈ wr.map (·.1) := by
  simp only [has, List.any_eq_true, List.mem_map]
  constructor
  · rintro ⟨p, hp, he⟩; exact ⟨p, hp, Loc.same_iff.1 he⟩
  · rintro ⟨p, hp, he⟩; exact ⟨p, hp, Loc.same_iff.2 he⟩

theorem agree_iff {σ : St} : ∀ {rd : List (Loc × Val)}, agree σ rd ↔ ∀ p ∈ rd, look σ p.1 = p.2
  | [] => by simp [agree]
  | (l, x) :: r => by simp [agree, agree_iff (rd := r)]

theorem Sim.congr {E : Env} {σ σ' : St} {a : Act} {w : World} (h : Sim E σ a w) (he : ∀ l, look σ' l = look σ l) : Sim E σ' a w := by
  obtain ⟨τ, h⟩ := h
  exact ⟨τ, h.less fun l => .inr (he l)⟩
theorem Fresh.congr {n : Nat} {σ σ' : St} (h : Fresh n σ) (he : ∀ l, look σ' l = look σ l) : Fresh n σ' := fun l => by rw [he]; exact h l
theorem agree.congr {rd : List (Loc × Val)} {σ σ' : St} (h : agree σ rd) (he : ∀ l, look σ' l = look σ l) : agree σ' rd := agree_iff.2 fun p hp => (he _).trans (agree_iff.1 h p hp)

/-- The chain, operation by operation. -/
theorem Chain.at_ {l : List Oper} {σ σ' : St} {es : List Ent} (h : Chain P N ops l σ es σ') : es.length = l.length ∧ σ' = after (fun _ => true) 0 es σ ∧ ∀ (i : Nat) (o : Oper) (e : Ent), l[i]? = some o → es[i]? = some e → LStep P N ops o e ∧ agree (after (fun j => decide (j < i)) 0 es σ) e.rd ∧ ∀ n ∈ e.nw, fresh n (after (fun j => decide (j < i)) 0 es σ) = true := by
  suffices H : ∀ k, es.length = l.length ∧ σ' = after (fun _ => true) k es σ ∧ ∀ (i : Nat) (o : Oper) (e : Ent), l[i]? = some o → es[i]? = some e → LStep P N ops o e ∧ agree (after (fun j => decide (j < k + i)) k es σ) e.rd ∧ ∀ n ∈ e.nw, fresh n (after (fun j => decide (j < k + i)) k es σ) = true by
    have := H 0
    simpa using this
  induction h with
  | nil => exact fun k => ⟨rfl, rfl, fun i o e h => by simp at h⟩
  | @cons o l σ σ' e es h hr hf hn ih =>
    intro k
    obtain ⟨h1, h2, h3⟩ := ih (k + 1)
    refine ⟨by simp [h1], by rw [after, h2]; rfl, fun i o' e' hi he => ?_⟩
    cases i with
    | zero =>
      simp only [List.getElem?_cons_zero, Option.some.injEq] at hi he
      subst hi he
      suffices hD : ∀ (es : List Ent) (m : Nat) (σ : St), k ≤ m → after (fun j => decide (j < k + 0)) m es σ = σ by
        rw [hD (e :: es) k σ (Nat.le_refl _)]
        exact ⟨h, hr, fun n hn => List.all_eq_true.1 hf n hn⟩
      have hD : ∀ (es : List Ent) (m : Nat) (σ : St), k ≤ m → after (fun j => decide (j < k + 0)) m es σ = σ := by
        intro es
        induction es with
        | nil => intro m σ _; rfl
        | cons x r ihr =>
          intro m σ hm
          rw [after, show decide (m < k + 0) = false by simp; omega, cond_false]
          exact ihr (m + 1) σ (by omega)
      exact hD
    | succ i =>
      obtain ⟨h4, h5, h6⟩ := h3 i o' e' (by simpa using hi) (by simpa using he)
      rw [after, show decide (k < k + (i + 1)) = true by simp, cond_true, show k + (i + 1) = k + 1 + i by omega]
      exact ⟨h4, h5, h6⟩

theorem after_congr {D D' : Nat → Bool} : ∀ (es : List Ent) (k : Nat) (σ : St), (∀ j, j < es.length → D (k + j) = D' (k + j)) → after D k es σ = after D' k es σ
  | [], _, _, _ => rfl
  | e :: es, k, σ, h => by
    have h0 := h 0 (by simp)
    rw [Nat.add_zero] at h0
    rw [after, after, h0]
    exact after_congr es (k + 1) _ fun j hj => by have := h (j + 1) (by simpa using hj); rwa [show k + (j + 1) = k + 1 + j by omega] at this

theorem look_after_congr {D D' : Nat → Bool} {l : Loc} (es : List Ent) (σ : St) (hin : ∀ j e', es[j]? = some e' → has l e'.wr = true → (D j = true ↔ D' j = true)) : look (after D 0 es σ) l = look (after D' 0 es σ) l := by
  rcases look_after D l es 0 σ with ⟨j, e1, h1, h2, h3, h4, h5⟩ | ⟨h1, h2⟩ <;> rcases look_after D' l es 0 σ with ⟨j', e1', h1', h2', h3', h4', h5'⟩ | ⟨h1', h2'⟩
  · simp only [Nat.zero_add] at *
    have hj' := h4 j' e1' h1' ((hin j' e1' h1' h3').2 h2') h3'
    have hj := h4' j e1 h1 ((hin j e1 h1 h3).1 h2) h3
    have : j = j' := by omega
    subst this
    rw [h1] at h1'
    injection h1' with h1'
    subst h1'
    rw [h5, h5']
  · simp only [Nat.zero_add] at *
    have := h1' j e1 h1 ((hin j e1 h1 h3).1 h2)
    rw [h3] at this
    cases this
  · simp only [Nat.zero_add] at *
    have := h1 j' e1' h1' ((hin j' e1' h1' h3').2 h2')
    rw [h3'] at this
    cases this
  · rw [h2, h2']

theorem mem_after {D : Nat → Bool} {p : Loc × Val} : ∀ (es : List Ent) (k : Nat) (σ : St), (p ∈ σ ∨ ∃ j e, es[j]? = some e ∧ D (k + j) = true ∧ p ∈ e.wr) → p ∈ after D k es σ
  | [], k, σ, h => by
    rcases h with h | ⟨j, e, h, _⟩
    · exact h
    · simp at h
  | e :: es, k, σ, h => by
    refine mem_after es (k + 1) _ ?_
    rcases h with h | ⟨j, e', h1, h2, h3⟩
    · left
      cases D k with
      | true => exact List.mem_append_right _ h
      | false => exact h
    · cases j with
      | zero =>
        simp only [List.getElem?_cons_zero, Option.some.injEq] at h1
        subst h1
        rw [Nat.add_zero] at h2
        rw [h2]
        exact .inl (List.mem_append_left _ h3)
      | succ j => exact .inr ⟨j, e', by simpa using h1, by rw [show k + 1 + j = k + (j + 1) by omega]; exact h2, h3⟩

theorem countP_set (listed : Array Bool) (i : Nat) (hi : listed[i]? = some false) : ((listed.setIfInBounds i true).toList.countP (· == false)) + 1 = listed.toList.countP (· == false) := by
  obtain ⟨hlt, hv⟩ := Array.getElem?_eq_some_iff.1 hi
  have h1 : (listed.setIfInBounds i true).toList = listed.toList.set i true := by simp
  rw [h1]
  have h2 : ∀ (l : List Bool) (i : Nat), l[i]? = some false → (l.set i true).countP (· == false) + 1 = l.countP (· == false) := by
    intro l
    induction l with
    | nil => intro i h; simp at h
    | cons b l ih =>
      intro i h
      cases i with
      | zero => simp only [List.getElem?_cons_zero, Option.some.injEq] at h; subst h; simp
      | succ i =>
        have := ih i (by simpa using h)
        rw [List.set_cons_succ, List.countP_cons, List.countP_cons, ← this]
        omega
  exact h2 listed.toList i (by simpa [Array.getElem?_eq_getElem hlt] using hv)

theorem wpAny_chain {σ σ' : St} {es : List Ent} (h : Chain P N ops ops.toList σ es σ') (hp : pairsOk (masks ops.toList []) 0 (es.map Ent.lean) = true) (he : edgesOk 0 ops.toList = true)
    {E : Env} (hN : E.N = N) {Q : Exit → Act → World → Prop} (hk : ∀ a' w', Sim E σ' a' w' → Q .normal a' w') :
    ∀ (fuel : Nat) (listed : Array Bool) (a : Act) (w : World), listed.size = ops.size → listed.toList.countP (· == false) = fuel →
      (∀ j o, ops[j]? = some o → listed.getD j false = true → ∀ e ∈ o.after, Region.binds .any e = true → listed.getD e.on false = true) → Sim E (after (fun j => listed.getD j false) 0 es σ) a w → wpAny P .any ops Q fuel listed a w := by
  obtain ⟨hlen, hσ', hat⟩ := h.at_
  have hlen' : es.length = ops.size := by simpa using hlen
  -- an unlisted one that may come up
  have hready : ∀ (listed : Array Bool), listed.size = ops.size → (∃ j : Nat, listed[j]? = some false) → Region.ready .any ops listed ≠ [] := fun listed hsz ⟨j, hj⟩ => by
    have hmin : ∀ m : Nat, ∀ j : Nat, j ≤ m → listed[j]? = some false → ∃ i : Nat, listed[i]? = some false ∧ ∀ k : Nat, k < i → listed[k]? ≠ some false := by
      intro m
      induction m with
      | zero => intro j hj h0; exact ⟨j, h0, fun k hk => by omega⟩
      | succ m ih =>
        intro j hj h0
        by_cases hx : ∃ k, k < j ∧ listed[k]? = some false
        · obtain ⟨k, hk, h1⟩ := hx
          exact ih k (by omega) h1
        · exact ⟨j, h0, fun k hk h1 => hx ⟨k, hk, h1⟩⟩
    obtain ⟨i, hi, hmin⟩ := hmin j j (Nat.le_refl _) hj
    obtain ⟨hlt, hv⟩ := Array.getElem?_eq_some_iff.1 hi
    have : i ∈ Region.ready .any ops listed := by
      refine mem_ready.2 ⟨by simp [hlt, hv], ops[i]'(by omega), Array.getElem?_eq_getElem (by omega), fun e he' hb => ?_⟩
      have hlt' := edgesOk_spec ops.toList 0 he i (ops[i]'(by omega)) (by simp) e he' hb
      rw [Nat.zero_add] at hlt'
      have := hmin e.on hlt'
      have hin : e.on < listed.size := by omega
      rw [Array.getElem?_eq_getElem hin] at this
      simp only [Array.getD_eq_getD_getElem?, Array.getElem?_eq_getElem hin, Option.getD_some]
      cases hx : listed[e.on] with
      | true => rfl
      | false => rw [hx] at this; exact absurd rfl this
    intro hn
    rw [hn] at this
    cases this
  intro fuel
  induction fuel with
  | zero =>
    intro listed a w hsz hc _ hs
    have hall : ∀ j, j < ops.size → listed.getD j false = true := fun j hj => by
      have hin : j < listed.size := by omega
      have := List.countP_eq_zero.1 hc listed[j] (by simp)
      simp only [Array.getD_eq_getD_getElem?, Array.getElem?_eq_getElem hin, Option.getD_some]
      simpa using this
    refine ⟨?_, hk a w ?_⟩
    · rw [List.eq_nil_iff_forall_not_mem]
      intro i hi
      obtain ⟨h1, o, ho, _⟩ := mem_ready.1 hi
      have hlt := (Array.getElem?_eq_some_iff.1 ho).1
      have := hall i hlt
      have hin : i < listed.size := by omega
      simp only [Array.getD_eq_getD_getElem?, Array.getElem?_eq_getElem hin, Option.getD_some] at h1 this
      rw [h1] at this
      cases this
    · rw [hσ', after_congr (D' := fun j => listed.getD j false) es 0 σ (fun j hj => by simp only [Nat.zero_add]; exact (hall j (by omega)).symm)]
      exact hs
  | succ fuel ih =>
    intro listed a w hsz hc hD hs
    refine ⟨fun hn => absurd hn (hready listed hsz ?_), fun i hi => ?_⟩
    · have : 0 < listed.toList.countP (· == false) := by omega
      obtain ⟨b, hb, hb'⟩ := List.countP_pos_iff.1 this
      obtain ⟨j, hj, rfl⟩ := List.getElem_of_mem hb
      refine ⟨j, ?_⟩
      have : listed[j]'(by simpa using hj) = false := by simpa using hb'
      rw [Array.getElem?_eq_getElem (by simpa using hj), this]
    · obtain ⟨hun, o, ho, hpre⟩ := mem_ready.1 hi
      have hilt : i < ops.size := (Array.getElem?_eq_some_iff.1 ho).1
      have hil : i < listed.size := by omega
      have hif : listed[i]? = some false := by
        simp only [Array.getD_eq_getD_getElem?, Array.getElem?_eq_getElem hil, Option.getD_some] at hun
        rw [Array.getElem?_eq_getElem hil, hun]
      have hiD : listed.getD i false = false := by simp only [Array.getD_eq_getD_getElem?, hif, Option.getD_some]
      obtain ⟨e, hei⟩ : ∃ e, es[i]? = some e := ⟨es[i]'(by omega), List.getElem?_eq_getElem (by omega)⟩
      obtain ⟨hst, hagree, hfr⟩ := hat i o e (by simpa using ho) hei
      -- who waits for whom
      have hancD : ∀ j, listed.getD j false = true → Anc ops.toList i j = false := fun j hj => by
        cases hx : Anc ops.toList i j with
        | false => rfl
        | true =>
          have := anc_listed (L := ops.toList) (D := fun j => listed.getD j false) (fun j o hjo hj => hD j o (by simpa using hjo) hj) (i := i) j hj hx
          rw [hiD] at this
          cases this
      have hanci : ∀ j, Anc ops.toList j i = true → listed.getD j false = true := fun j hj => by
        unfold Anc at hj
        obtain ⟨o', ho', ed, hed, hb, hor⟩ := masks_spec ops.toList [] ops.toList 0 rfl (fun j => by simp) i (by simpa using hilt) j (by simpa using hj)
        rw [Nat.zero_add] at ho' hor
        have : o' = o := by
          have h1 : ops[i]? = some o' := by simpa using ho'
          rw [ho] at h1
          injection h1 with h1
          exact h1.symm
        subst this
        have h1 := hpre ed hed hb
        rcases hor with hor | ⟨_, hor⟩
        · rw [← hor]; exact h1
        · exact anc_listed (L := ops.toList) (D := fun j => listed.getD j false) (fun j o hjo hj => hD j o (by simpa using hjo) hj) ed.on h1 hor
      have hpair : ∀ j e', es[j]? = some e' → j ≠ i → (j < i ∧ (Anc ops.toList j i = true ∨ (meets e'.lean.wl e.lean.rl = false ∧ meets e'.lean.wl e.lean.wl = false ∧ meets e'.lean.rl e.lean.wl = false ∧ speaks e.lean.nw e'.lean.wn = false))) ∨
          (i < j ∧ (Anc ops.toList i j = true ∨ (meets e.lean.wl e'.lean.rl = false ∧ meets e.lean.wl e'.lean.wl = false ∧ meets e.lean.rl e'.lean.wl = false ∧ speaks e.lean.nw e'.lean.wn = false))) := fun j e' hj hne => by
        rcases Nat.lt_or_gt_of_ne hne with hlt | hgt
        · have := pairsOk_spec _ _ 0 hp j i e'.lean e.lean hlt (by simp [hj]) (by simp [hei])
          rw [Nat.zero_add, Nat.zero_add] at this
          refine .inl ⟨hlt, ?_⟩
          simp only [pairOk, Bool.or_eq_true, Bool.and_eq_true, Bool.not_eq_true'] at this
          rcases this with this | ⟨⟨⟨⟨a1, a2⟩, a3⟩, a4⟩, a5⟩
          · exact .inl this
          · exact .inr ⟨a1, a2, a3, a4⟩
        · have := pairsOk_spec _ _ 0 hp i j e.lean e'.lean hgt (by simp [hei]) (by simp [hj])
          rw [Nat.zero_add, Nat.zero_add] at this
          refine .inr ⟨hgt, ?_⟩
          simp only [pairOk, Bool.or_eq_true, Bool.and_eq_true, Bool.not_eq_true'] at this
          rcases this with this | ⟨⟨⟨⟨a1, a2⟩, a3⟩, a4⟩, a5⟩
          · exact .inl this
          · exact .inr ⟨a1, a2, a3, a5⟩
      -- a writer of what i reads, listed: it stands ahead in the text; ahead in the text: listed
      have hread : ∀ l, l ∈ e.rd.map (·.1) → ∀ j e', es[j]? = some e' → has l e'.wr = true → j ≠ i → (listed.getD j false = true ↔ j < i) := fun l hl j e' hj hw hne => by
        have hw' : l ∈ e'.lean.wl := has_iff.1 hw
        rcases hpair j e' hj hne with ⟨hlt, ha | ⟨a1, _⟩⟩ | ⟨hgt, ha | ⟨_, _, a3, _⟩⟩
        · exact ⟨fun _ => hlt, fun _ => hanci j ha⟩
        · exact absurd hl (meets_false a1 hw')
        · refine ⟨fun hD' => ?_, fun h => by omega⟩
          rw [hancD j hD'] at ha
          cases ha
        · exact absurd hw' (meets_false a3 hl)
      have hsame : ∀ l, l ∈ e.rd.map (·.1) → look (after (fun j => listed.getD j false) 0 es σ) l = look (after (fun j => decide (j < i)) 0 es σ) l := fun l hl => by
        have hin : ∀ (j : Nat) (e' : Ent), es[j]? = some e' → has l e'.wr = true → (listed.getD j false = true ↔ decide (j < i) = true) := fun j e' hj hw => by
          by_cases hne : j = i
          · subst hne; rw [hiD]; simp
          · rw [hread l hl j e' hj hw hne]; simp
        exact look_after_congr es σ hin
      have hagree' : agree (after (fun j => listed.getD j false) 0 es σ) e.rd := agree_iff.2 fun p hp' => by
        rw [hsame p.1 (List.mem_map.2 ⟨p, hp', rfl⟩)]
        exact agree_iff.1 hagree p hp'
      have hfresh' : ∀ n ∈ e.nw, Fresh n (after (fun j => listed.getD j false) 0 es σ) := fun n hn l => by
        rcases look_after (fun j => listed.getD j false) l es 0 σ with ⟨j, e1, h1, h2, h3, h4, h5⟩ | ⟨h1, h2⟩
        · simp only [Nat.zero_add] at *
          have hne : j ≠ i := by rintro rfl; rw [hiD] at h2; cases h2
          have hmem : ∀ p ∈ e1.wr, n ∉ p.1.names ++ p.2.names := fun p hp' hn' => by
            rcases hpair j e1 h1 hne with ⟨hlt, _⟩ | ⟨hgt, ha | ⟨_, _, _, a4⟩⟩
            · have hin : p ∈ after (fun j => decide (j < i)) 0 es σ := mem_after es 0 σ (.inr ⟨j, e1, h1, by simpa using hlt, hp'⟩)
              have := fresh_mem (l := p.1) (x := p.2) (hfr n hn) hin
              simp only [List.mem_append] at hn'
              exact hn'.elim this.1 this.2
            · rw [hancD j h2] at ha; cases ha
            · exact speaks_false a4 hn (List.mem_flatMap.2 ⟨p, hp', hn'⟩)
          have hl : (l, look e1.wr l) ∈ e1.wr ∨ look e1.wr l = .gone := by
            by_cases hg : look e1.wr l = .gone
            · exact .inr hg
            · exact .inl (look_mem rfl hg)
          rw [h5]
          rcases hl with hl | hl
          · have := hmem _ hl
            simp only [List.mem_append, not_or] at this
            exact ⟨fun h => absurd h this.1, this.2⟩
          · rw [hl]; exact ⟨fun _ => rfl, by simp [Val.names]⟩
        · rw [h2]
          refine Fresh.of_bool (σ := σ) ?_ l
          refine List.all_eq_true.2 fun p hp' => ?_
          exact List.all_eq_true.1 (hfr n hn) p (mem_after es 0 σ (.inl hp'))
      have hafter : ∀ l, look (after (fun j => (listed.setIfInBounds i true).getD j false) 0 es σ) l = look (e.wr ++ after (fun j => listed.getD j false) 0 es σ) l := fun l => by
        have hset : ∀ j, j ≠ i → (listed.setIfInBounds i true).getD j false = listed.getD j false := fun j hj => getD_set_ne false (Ne.symm hj)
        have hseti : (listed.setIfInBounds i true).getD i false = true := by simp [hil]
        rw [look_append]
        cases hh : has l e.wr with
        | false =>
          rw [cond_false]
          exact look_after_congr es σ fun j e' hj hw => by
            have hne : j ≠ i := by rintro rfl; rw [hei] at hj; injection hj with hj; subst hj; rw [hh] at hw; cases hw
            rw [hset j hne]
        | true =>
          rw [cond_true]
          rcases look_after (fun j => (listed.setIfInBounds i true).getD j false) l es 0 σ with ⟨j, e1, h1, h2, h3, h4, h5⟩ | ⟨h1, _⟩
          · simp only [Nat.zero_add] at *
            have hle := h4 i e hei hseti hh
            by_cases hji : j = i
            · subst hji
              rw [hei] at h1
              injection h1 with h1
              subst h1
              exact h5
            · have hjD : listed.getD j false = true := by rw [← hset j hji]; exact h2
              rcases hpair j e1 h1 hji with ⟨hlt, _⟩ | ⟨hgt, ha | ⟨_, a2, _⟩⟩
              · omega
              · rw [hancD j hjD] at ha; cases ha
              · exact absurd (has_iff.1 h3) (meets_false a2 (has_iff.1 hh))
          · have := h1 i e hei (by simpa using hseti)
            rw [hh] at this
            cases this
      have := hst E _ hN hagree' hfresh' (wpAny P .any ops Q fuel (listed.setIfInBounds i true)) Q a w hs (fun a' w' hs' => by
        refine ih (listed.setIfInBounds i true) a' w' (by simpa using hsz) (by have := countP_set listed i hif; omega) ?_ (hs'.congr hafter)
        intro j o' hjo hj ed hed hb
        by_cases hji : j = i
        · subst hji
          rw [ho] at hjo
          injection hjo with hjo
          subst hjo
          have := hpre ed hed hb
          exact getD_set_true this
        · have hj' : listed.getD j false = true := by
            rw [getD_set_ne false (Ne.symm hji)] at hj
            exact hj
          exact getD_set_true (hD j o' hjo hj' ed hed hb))
      unfold wpOp
      simp only [ho]
      split
      · rename_i hw; rw [if_pos hw] at this; exact .inl this
      · rename_i hw; rw [if_neg hw] at this; exact this
end
end Go.PM
