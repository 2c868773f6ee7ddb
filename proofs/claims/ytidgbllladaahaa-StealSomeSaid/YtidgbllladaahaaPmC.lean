/- A part of a layer between the model's runs and plain values: steps of code simulate plain functions; no program is named here. -/
import Derived.Test.YtidgbllladaahaaPmB
import Derived.Laws.Tables
import Derived.Laws.Slices
set_option linter.all false
namespace Go.PM
open Go Go.RowKit

def M.cs : M → List C
  | .one c => [c]
  | .agg cs => cs
  | .tup _ => []

/-- A value's cells. -/
theorem RepM.cells {w : World} {S : Nat → Prop} {τ : Tie} {m : M} {v : Value} (h : RepM w S τ m v) (hm : ∀ ms, m ≠ .tup ms) : RepCs w S τ m.cs v.cells.toList := by
  cases m with
  | one c =>
    have h1 := RepC.one (show RepC w S τ c v from h)
    have hc : v.cells = #[v] := by cases v <;> first | rfl | (simp [Value.oneCell'] at h1)
    rw [hc]
    refine ⟨rfl, fun j c' hj => ?_⟩
    cases j with
    | zero => simp only [M.cs, List.getElem?_cons_zero, Option.some.injEq] at hj; subst hj; exact ⟨v, rfl, h⟩
    | succ j => simp [M.cs] at hj
  | agg cs =>
    obtain ⟨vs, rfl, hr⟩ := h
    exact hr
  | tup ms => exact absurd rfl (hm ms)

theorem RepCs.set {w : World} {S : Nat → Prop} {τ : Tie} {cs : List C} {vs : List Value} {k : Nat} {c : C} {v : Value} (h : RepCs w S τ cs vs) (hc : RepC w S τ c v) : RepCs w S τ (cs.set k c) (vs.set k v) := by
  refine ⟨by simpa using h.1, fun j c' hj => ?_⟩
  by_cases e : k = j
  · subst e
    have hk : k < cs.length := by
      have := (List.getElem?_eq_some_iff.1 hj).1
      simpa using this
    rw [List.getElem?_set_self hk] at hj
    injection hj with hj
    subst hj
    exact ⟨v, List.getElem?_set_self (by rw [← h.1]; exact hk), hc⟩
  · rw [List.getElem?_set_ne e] at hj
    obtain ⟨u, hu, hr⟩ := h.2 j c' hj
    exact ⟨u, by rw [List.getElem?_set_ne e]; exact hu, hr⟩

def splice {α : Type} : List α → Nat → List α → List α
  | cells, _, [] => cells
  | cells, off, v :: r => splice (cells.set off v) (off + 1) r

theorem splice_length {α : Type} : ∀ (vs cells : List α) (off : Nat), (splice cells off vs).length = cells.length
  | [], _, _ => rfl
  | v :: r, cells, off => by rw [splice, splice_length r]; simp

theorem RepCs.splice {w : World} {S : Nat → Prop} {τ : Tie} : ∀ (xs : List C) (us : List Value) (cs : List C) (vs : List Value) (off : Nat), RepCs w S τ cs vs → RepCs w S τ xs us → RepCs w S τ (PM.splice cs off xs) (PM.splice vs off us)
  | [], us, cs, vs, off, h, hx => by
    obtain rfl : us = [] := List.eq_nil_of_length_eq_zero hx.1.symm
    exact h
  | x :: r, us, cs, vs, off, h, hx => by
    cases us with
    | nil => have := hx.1; simp at this
    | cons u us =>
      obtain ⟨u', hu, hr⟩ := hx.2 0 x rfl
      simp only [List.getElem?_cons_zero, Option.some.injEq] at hu
      subst hu
      refine RepCs.splice r us _ _ (off + 1) (h.set hr) ⟨by simpa using hx.1, fun j c hj => ?_⟩
      obtain ⟨u2, hu2, hr2⟩ := hx.2 (j + 1) c (by simpa using hj)
      exact ⟨u2, by simpa using hu2, hr2⟩

def fillA (place : Nat → Option (Nat × Nat)) : List C → List (Nat × List C) → Option (List C)
  | cells, [] => some cells
  | cells, (i, vs) :: rest =>
    match place i with
    | none => none
    | some (off, size) => bif Nat.beq vs.length size && Nat.ble (off + vs.length) cells.length then fillA place (splice cells off vs) rest else none

theorem foldl_splice : ∀ (us : List Value) (k off : Nat) (cells : Array Value), ((us.zipIdx k).foldl (fun (cs : Array Value) (x : Value × Nat) => cs.setIfInBounds (off + x.2) x.1) cells).toList = splice cells.toList (off + k) us
  | [], _, _, _ => rfl
  | u :: r, k, off, cells => by
    rw [List.zipIdx_cons, List.foldl_cons, foldl_splice r (k + 1) off, splice]
    simp [Nat.add_assoc]

theorem fill_rep {w : World} {S : Nat → Prop} {τ : Tie} {place : Nat → Option (Nat × Nat)} : ∀ (qs : List (Nat × List C)) (ps : List (Nat × Value)) (zs : List C) (cells : Array Value) (cs : List C), RepCs w S τ zs cells.toList →
    ps.length = qs.length → (∀ (j : Nat) (q : Nat × List C) (p : Nat × Value), qs[j]? = some q → ps[j]? = some p → q.1 = p.1 ∧ RepCs w S τ q.2 p.2.cells.toList) → fillA place zs qs = some cs → ∃ out, Instr.fill place cells ps = some out ∧ RepCs w S τ cs out.toList
  | [], ps, zs, cells, cs, hz, hl, _, h => by
    obtain rfl : ps = [] := List.eq_nil_of_length_eq_zero hl
    simp only [fillA, Option.some.injEq] at h
    subst h
    exact ⟨cells, rfl, hz⟩
  | (i, xs) :: qs, ps, zs, cells, cs, hz, hl, hq, h => by
    cases ps with
    | nil => simp at hl
    | cons p ps =>
      obtain ⟨i', v⟩ := p
      obtain ⟨h1, h2⟩ := hq 0 (i, xs) (i', v) rfl rfl
      simp only at h1
      subst h1
      simp only [fillA] at h
      cases hp : place i with
      | none => rw [hp] at h; simp at h
      | some os =>
        obtain ⟨off, size⟩ := os
        rw [hp] at h
        simp only at h
        cases hc : Nat.beq xs.length size && Nat.ble (off + xs.length) zs.length with
        | false => rw [hc] at h; simp at h
        | true =>
          rw [hc] at h
          simp only [cond_true] at h
          simp only [Bool.and_eq_true, Nat.beq_eq, Nat.ble_eq] at hc
          have hxl : v.cells.size = xs.length := by have := h2.1; simpa using this.symm
          have hzl : cells.size = zs.length := by have := hz.1; simpa using this.symm
          simp only [Instr.fill, hp]
          rw [if_neg (by simp; omega)]
          refine fill_rep qs ps (splice zs off xs) _ cs ?_ (by simpa using hl) (fun j q p a b => hq (j + 1) q p (by simpa using a) (by simpa using b)) h
          have : (v.cells.zipIdx.foldl (fun (cs : Array Value) (x : Value × Nat) => cs.setIfInBounds (off + x.2) x.1) cells).toList = splice cells.toList off v.cells.toList := by
            rw [← Array.foldl_toList, Array.toList_zipIdx]
            simpa using foldl_splice v.cells.toList 0 off cells
          show RepCs w S τ _ (v.cells.zipIdx.foldl (fun (cs : Array Value) (x : Value × Nat) => cs.setIfInBounds (off + x.2) x.1) cells).toList
          rw [this]
          exact hz.splice _ _ _ _ _ h2

/-- The parts of a literal. -/
inductive EvParts : List (Nat × Operand) → List (Nat × List C) → List (Loc × Val) → Prop
  | nil : EvParts [] [] []
  | cons {i : Nat} {x : Operand} {m : M} {rx rd : List (Loc × Val)} {ps : List (Nat × Operand)} {qs : List (Nat × List C)} (hx : EvR x m rx) (hm : ∀ ms, m ≠ .tup ms) (h : EvParts ps qs rd) : EvParts ((i, x) :: ps) ((i, m.cs) :: qs) (rx ++ rd)

theorem EvParts.rep {ps : List (Nat × Operand)} {qs : List (Nat × List C)} {rd : List (Loc × Val)} (h : EvParts ps qs rd) {E : Env} {τ : Tie} {σ : St} {a : Act} {w : World} (hr : agree σ rd) (hs : SimAt E τ σ a w) :
    (ps.map fun p => (p.1, a.eval p.2)).length = qs.length ∧ ∀ (j : Nat) (q : Nat × List C) (p : Nat × Value), qs[j]? = some q → (ps.map fun p => (p.1, a.eval p.2))[j]? = some p → q.1 = p.1 ∧ RepCs w (E.S τ) τ q.2 p.2.cells.toList := by
  induction h with
  | nil => exact ⟨rfl, fun j q p h => by simp at h⟩
  | cons hx hm _ ih =>
    obtain ⟨h1, h2⟩ := agree_append.1 hr
    obtain ⟨il, ih⟩ := ih h2
    refine ⟨by simpa using il, fun j q p hq hp => ?_⟩
    cases j with
    | zero =>
      simp only [List.getElem?_cons_zero, Option.some.injEq] at hq
      simp only [List.map_cons, List.getElem?_cons_zero, Option.some.injEq] at hp
      subst hq hp
      exact ⟨rfl, (hx E τ σ a w h1 hs).cells hm⟩
    | succ j => exact ih j q p (by simpa using hq) (by simpa using hp)

def places (P : Program) (fs : List Field) : Option (List (Nat × Nat)) := fs.mapM (fun f => (P.info? f.type).map fun i => (f.offset, i.size))

theorem plain_cells {w : World} {S : Nat → Prop} {τ : Tie} {z : List Value} (h : z.all plain = true) : RepCs w S τ (z.map fun v => C.t (.v v)) z := by
  refine ⟨by simp, fun j c hj => ?_⟩
  rw [List.getElem?_map] at hj
  cases hz : z[j]? with
  | none => rw [hz] at hj; simp at hj
  | some v =>
    rw [hz] at hj
    simp only [Option.map_some, Option.some.injEq] at hj
    subst hj
    exact ⟨v, rfl, .v (List.all_eq_true.1 h v (List.mem_of_getElem? hz))⟩

section
variable {P : Program} {N : Nat} {o : Oper}

theorem c_build {d : Nat} {t : TypeId} {ps : List (Nat × Operand)} {qs : List (Nat × List C)} {fs : Array Field} {i : TypeInfo} {z : Value} {zs : List Value} {pl : List (Nat × Nat)} {cs : List C} {rd : List (Loc × Val)}
    (ho : o.op = .build t ps.toArray) (hd : o.dst = some d) (hN : d < N) (ht : P.underlying t = some (.struct fs)) (hi : P.info? t = some i) (hz : i.zero = some z) (hzs : z.cells.toList = zs) (hzp : zs.all plain = true)
    (hpl : places P fs.toList = some pl) (hq : EvParts ps qs rd) (hf : fillA (fun x => pl.toArray[x]?) (zs.map fun v => C.t (.v v)) qs = some cs) : LCore P N o rd [(.tmp d, .m (.agg cs))] [] :=
  c_pure hd hN fun E τ σ a w hr hs => by
    obtain ⟨hl, hrep⟩ := hq.rep hr hs
    obtain ⟨out, hout, hcs⟩ := fill_rep (w := w) (S := E.S τ) (τ := τ) (place := fun x => pl.toArray[x]?) qs (ps.map fun p => (p.1, a.eval p.2)) (zs.map fun v => C.t (.v v)) z.cells cs (by rw [hzs]; exact plain_cells hzp) hl hrep hf
    refine ⟨.agg out, ?_, out, rfl, hcs⟩
    simp only [execOp, ho]
    refine run_value (fun x => Next.value x) (run_build (P := P) w t _ out ?_)
    have hpl' : fs.toList.mapM (fun f => (P.info? f.type).map fun i => (f.offset, i.size)) = some pl := hpl
    have hparts : (Array.map (fun (x : Nat × Operand) => match x with | (i, x) => (i, a.eval x)) ps.toArray).toList = ps.map fun p => (p.1, a.eval p.2) := by simp
    simp only [Program.built, hi, ht, hz, hpl', hparts]
    exact hout

/-! ### New blocks -/
theorem c_new {d : Nat} {cs : List C} {rd : List (Loc × Val)} (hd : o.dst = some d) (hN : d < N)
    (h : ∀ (E : Env) (τ : Tie) (σ : St) (a : Act) (w : World), agree σ rd → SimAt E τ σ a w → ∃ (vs : Array Value) (t : TypeId), (execOp a.eval o).run P w = .ok (.value (.pointer (some ⟨w.heap.size, 0, none⟩))) (w.alloc (.cells vs t)) ∧ RepCs w (E.S τ) τ cs vs.toList)
    (hn : (cs.flatMap C.names).any (Nat.beq d) = false) :
    LCore P N o rd ((.tmp d, .m (.one (.ptr d 0))) :: cellsAt d 0 cs) [d] := by
  rintro E σ rfl hr hf K Q a w ⟨τ, hs⟩ hk
  obtain ⟨vs, t, hv, hm⟩ := h E τ σ a w hr hs
  refine wp_value hv ?_
  rw [hd]
  have hnn : d ∉ cs.flatMap C.names := fun hmem => by
    have := List.any_eq_false.1 hn d hmem
    simp at this
  have h1 := hs.box (Nat.lt_of_lt_of_le hN hs.lim) (hf d (by simp)) t hm hnn
  exact hk _ _ ⟨_, h1.put (x := .one (.ptr d 0)) hN (by simp [RepM, RepC, Tie.bind])⟩

theorem c_alloc {d : Nat} {e : TypeId} {i : TypeInfo} {z : Value} {zs : List Value} (ho : o.op = .alloc e) (hd : o.dst = some d) (hN : d < N) (hi : P.info? e = some i) (hz : i.zero = some z) (hzs : z.cells.toList = zs) (hzp : zs.all plain = true) :
    LCore P N o [] ((.tmp d, .m (.one (.ptr d 0))) :: cellsAt d 0 (zs.map fun v => C.t (.v v))) [d] := by
  refine c_new hd hN (fun E τ σ a w _ hs => ⟨z.cells, e, ?_, ?_⟩) ?_
  · simp only [execOp, ho]
    refine run_value (fun x => Next.value x) ?_
    simp [Instr.alloc, zeroValue, typeInfo, hi, hz, newVar, newRow]
  · rw [hzs]
    exact plain_cells hzp
  · have : (zs.map fun v => C.t (.v v)).flatMap C.names = [] := by
      rw [List.flatMap_eq_nil_iff]
      intro c hc
      obtain ⟨v, _, rfl⟩ := List.mem_map.1 hc
      rfl
    rw [this]
    rfl

theorem c_box {d : Nat} {e : TypeId} {x : Operand} {m : M} {rx : List (Loc × Val)} (ho : o.op = .box e x) (hd : o.dst = some d) (hN : d < N) (hx : EvR x m rx) (hm : ∀ ms, m ≠ .tup ms)
    (hn : (m.cs.flatMap C.names).any (Nat.beq d) = false) : LCore P N o rx ((.tmp d, .m (.one (.ptr d 0))) :: cellsAt d 0 m.cs) [d] :=
  c_new hd hN (fun E τ σ a w hr hs => ⟨(a.eval x).cells, e, by
    simp only [execOp, ho]
    exact run_value (fun x => Next.value x) (by simp [Instr.box, newVar, newRow]), (hx E τ σ a w hr hs).cells hm⟩) hn
end
end Go.PM
