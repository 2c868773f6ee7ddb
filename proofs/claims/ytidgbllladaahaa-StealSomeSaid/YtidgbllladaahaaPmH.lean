/- A part of a layer between the model's runs and plain values: steps of code simulate plain functions; no program is named here. -/
import Derived.Test.YtidgbllladaahaaPmG
set_option linter.all false
namespace Go.PM
open Go Go.RowKit

/-! ### Entering -/
theorem FnOk.run {P : Program} {f : FuncId} (h : FnOk P f) (args : Array Value) (w : World) : (callFunc f args).run P w = .ok (.enter f args) w := h args w

/-- Operands, as a function is handed them. -/
inductive EvArgs : List Operand → List M → List (Loc × Val) → Prop
  | nil : EvArgs [] [] []
  | cons {x : Operand} {m : M} {r : List (Loc × Val)} {xs : List Operand} {ms : List M} {rd : List (Loc × Val)} (hx : EvR x m r) (hn : EvArgs xs ms rd) : EvArgs (x :: xs) (m :: ms) (r ++ rd)
theorem EvArgs.rep {xs : List Operand} {ms : List M} {rd : List (Loc × Val)} (h : EvArgs xs ms rd) {E : Env} {τ : Tie} {σ : St} {a : Act} {w : World} (hr : agree σ rd) (hs : SimAt E τ σ a w) : RepMs w (E.S τ) τ ms (xs.map a.eval) := by
  induction h with
  | nil => exact ⟨rfl, fun j m h => by simp at h⟩
  | cons hx _ ih =>
    obtain ⟨h1, h2⟩ := ih (agree_append.1 hr).2
    refine ⟨by simpa using h1, fun j m hj => ?_⟩
    cases j with
    | zero =>
      simp only [List.getElem?_cons_zero, Option.some.injEq] at hj
      subst hj
      exact ⟨_, rfl, hx _ _ _ _ _ (agree_append.1 hr).1 hs⟩
    | succ j => exact h2 j m (by simpa using hj)

/-- What is lent: as if all memory could be led to; rows are read as lists. -/
def EvB (x : Operand) (m : M) (rd : List (Loc × Val)) : Prop := ∀ (E : Env) (τ : Tie) (σ : St) (a : Act) (w : World), agree σ rd → SimAt E τ σ a w → ∀ τ', RepM w (fun _ => True) τ' m (a.eval x)
theorem EvB.of {x : Operand} {m : M} {rd : List (Loc × Val)} (h : EvR x m rd) (hn : m.names = []) : EvB x m rd := fun E τ σ a w hr hs τ' => RepM.step (h E τ σ a w hr hs) (fun _ _ _ => ⟨trivial, rfl⟩) (by rw [hn]; simp)
theorem EvB.row {x : Operand} {r e sz : Nat} {es : List (List T)} {rd : List (Loc × Val)} (h : EvR x (.one (.row r)) rd) : EvB x (.one (.t (.sl es))) (rd ++ [(.row r, .r e sz es)]) := fun E τ σ a w hr hs τ' => by
  obtain ⟨h1, h2⟩ := agree_append.1 hr
  have hv := (h E τ σ a w h1 hs).1
  have hrow := hs.get (.row r)
  rw [h2.1] at hrow
  rw [hv]
  have h3 : RowOk w (fun _ => True) (τ.ν r) e sz es := hrow.2.2.step (fun _ _ _ => ⟨trivial, rfl⟩) (fun _ _ => rfl)
  exact RowOk.toT h3 (fun _ _ => trivial)
inductive EvArgsB : List Operand → List M → List (Loc × Val) → Prop
  | nil : EvArgsB [] [] []
  | cons {x : Operand} {m : M} {r : List (Loc × Val)} {xs : List Operand} {ms : List M} {rd : List (Loc × Val)} (hx : EvB x m r) (hn : EvArgsB xs ms rd) : EvArgsB (x :: xs) (m :: ms) (r ++ rd)
theorem EvArgsB.rep {xs : List Operand} {ms : List M} {rd : List (Loc × Val)} (h : EvArgsB xs ms rd) {E : Env} {τ : Tie} {σ : St} {a : Act} {w : World} (hr : agree σ rd) (hs : SimAt E τ σ a w) (τ' : Tie) : RepMs w (fun _ => True) τ' ms (xs.map a.eval) := by
  induction h with
  | nil => exact ⟨rfl, fun j m h => by simp at h⟩
  | cons hx _ ih =>
    obtain ⟨h1, h2⟩ := ih (agree_append.1 hr).2
    refine ⟨by simpa using h1, fun j m hj => ?_⟩
    cases j with
    | zero =>
      simp only [List.getElem?_cons_zero, Option.some.injEq] at hj
      subst hj
      exact ⟨_, rfl, hx _ _ _ _ _ (agree_append.1 hr).1 hs τ'⟩
    | succ j => exact h2 j m (by simpa using hj)

/-- Nothing in it leads to memory. -/
def C.bare : C → Bool
  | .t (.v _) => true
  | _ => false
def M.bare : M → Bool
  | .one c => c.bare
  | .agg cs => cs.all C.bare
  | .tup ms => ms.all fun b => b.2.all C.bare
theorem RepC.bare {w : World} {S : Nat → Prop} {τ : Tie} {c : C} {v : Value} (hb : c.bare = true) (h : RepC w S τ c v) {w' : World} {S' : Nat → Prop} {τ' : Tie} : RepC w' S' τ' c v := by
  cases c with
  | t x => cases x with
    | v x => cases (show RepT w S (.v x) v from h); rename_i h; exact .v h
    | _ => simp [C.bare] at hb
  | _ => simp [C.bare] at hb
theorem RepCs.bare {w : World} {S : Nat → Prop} {τ : Tie} {cs : List C} {vs : List Value} (hb : cs.all C.bare = true) (h : RepCs w S τ cs vs) {w' : World} {S' : Nat → Prop} {τ' : Tie} : RepCs w' S' τ' cs vs :=
  ⟨h.1, fun j c hj => by
    obtain ⟨u, hu, hr⟩ := h.2 j c hj
    exact ⟨u, hu, hr.bare (List.all_eq_true.1 hb _ (List.mem_of_getElem? hj))⟩⟩
theorem RepM.bare {w : World} {S : Nat → Prop} {τ : Tie} {m : M} {v : Value} (hb : m.bare = true) (h : RepM w S τ m v) {w' : World} {S' : Nat → Prop} {τ' : Tie} : RepM w' S' τ' m v := by
  cases m with
  | one c => exact RepC.bare hb h
  | agg cs =>
    obtain ⟨vs, e, hr⟩ := h
    exact ⟨vs, e, hr.bare hb⟩
  | tup ms =>
    obtain ⟨vs, e, hl, hr⟩ := h
    refine ⟨vs, e, hl, fun j b hj => ?_⟩
    obtain ⟨u, hu, hb'⟩ := hr j b hj
    have hbb := List.all_eq_true.1 hb b (List.mem_of_getElem? hj)
    refine ⟨u, hu, ?_⟩
    obtain ⟨k, cs⟩ := b
    cases k with
    | false =>
      obtain ⟨c, rfl, hc⟩ := hb'
      exact ⟨c, rfl, hc.bare (by simpa using hbb)⟩
    | true =>
      obtain ⟨us, e', hc⟩ := hb'
      exact ⟨us, e', hc.bare hbb⟩

/-- No block bears a name. -/
def Tie.empty : Tie := ⟨fun _ => none, fun _ => 0, fun _ => .nilIface, fun _ => false⟩
theorem sim_empty (w : World) (S0 : Nat → Prop) : SimAt ⟨w, 0, S0, fun _ => False, Tie.empty⟩ Tie.empty [] ⟨#[], []⟩ w where
  dfr := rfl
  nsz := rfl
  lim := Nat.zero_le _
  tie := .refl _
  os := rfl
  tape := rfl
  output := ⟨rfl, Nat.le_refl _⟩
  grow := Nat.le_refl _
  keep := fun _ _ _ => rfl
  inj := fun _ _ _ h => by cases h
  acc := fun _ _ h => by cases h
  get := fun l => by cases l <;> exact trivial

/-- The world after a call that was handed no objects. -/
theorem SimAt.called {E : Env} {τ : Tie} {σ : St} {a : Act} {w w' : World} (h : SimAt E τ σ a w) {S0 : Nat → Prop} {τ' : Tie} {post : St} {a' : Act} (hc : SimAt ⟨w, 0, S0, fun _ => False, Tie.empty⟩ τ' post a' w') : SimAt E τ σ a w' := by
  refine h.move hc.os hc.tape hc.output hc.grow (fun k hk _ => hc.keep k hk (fun h => h)) h.inj (fun n k hn => Nat.lt_of_lt_of_le (h.acc n k hn).1 hc.grow) (fun n k hn _ => ⟨n, hn⟩) (.refl _) ?_
  intro hs l
  exact (h.get l).step hs (fun _ _ => ⟨rfl, rfl⟩) (fun n _ => ⟨rfl, rfl, rfl, rfl, fun k hk => hc.keep k (h.acc n k hk).1 (fun h => h)⟩)

section
variable {P : Program} {N : Nat} {o : Oper}

theorem run_call_value {x : Operand} {args : Array Operand} {ts : Array TypeId} {a : Act} {w : World} {f : FuncId} {caps : Array Value} (ho : o.op = .call { callee := .value x, args := args, argTypes := ts }) (hx : a.eval x = .func (.func f) #[] caps) (hf : FnOk P f) :
    (execOp a.eval o).run P w = .ok (.enter f (args.map a.eval ++ caps)) w := by
  simp only [execOp, ho, resolve, hx, Deferred.ofValue, Sem.run_bind, Sem.run_pure, Result.andThen_ok, invoke]
  have : (#[] : Array Value) ++ args.map a.eval = args.map a.eval := by simp
  rw [this]
  exact hf.run _ w

theorem wp_entered {a : Act} {w : World} {f : FuncId} {args : Array Value} {K : Act → World → Prop} {Q : Exit → Act → World → Prop} (h : (execOp a.eval o).run P w = .ok (.enter f args) w) {R : Ending → World → Prop} (hc : Calls P f args w R)
    (hk : ∀ e w', R e w' → ∃ v, e = .returned v ∧ K (a.put o.dst v) w') : o.wp P a w K Q := by
  unfold Oper.wp
  rw [h, Oper.upon_enter]
  refine Calls.mono hc fun e w' he => ?_
  obtain ⟨v, rfl, hv⟩ := hk e w' he
  exact hv

/-- A call of a function that is handed values alone. -/
theorem c_call {d : Nat} {x : Operand} {f : FuncId} {xs : List Operand} {args : Array Operand} {ts : Array TypeId} {ins : List M} {caps : List (List T)} {out : M} {rx rd : List (Loc × Val)} (ho : o.op = .call { callee := .value x, args := args, argTypes := ts }) (hargs : args.toList = xs) (hd : o.dst = some d) (hN : d < N)
    (hx : EvR x (.one (.t (.clo f caps))) rx) (hA : ACalls P f (ins ++ caps.map fun cs => .one (.tptr cs 0)) [] out []) (hi : EvArgs xs ins rd) (hin : ins.all (fun m => m.names.isEmpty) = true) (hon : out.names = []) : LCore P N o (rx ++ rd) [(.tmp d, .m out)] [] := by
  rintro E σ rfl hr _ K Q a w ⟨τ, hs⟩ hk
  obtain ⟨hr1, hr2⟩ := agree_append.1 hr
  have hxv := hx E τ σ a w hr1 hs
  obtain ⟨ads, vs, hxe, hcell, hrep⟩ : ∃ (ads : Nat → Addr) (vs : Nat → Nat → Value), a.eval x = .func (.func f) #[] ((List.range caps.length).map fun i => .pointer (some (ads i))).toArray ∧ (∀ i cs j t, caps[i]? = some cs → cs[j]? = some t → (E.S τ) (ads i).block ∧ w.cell? ((ads i).add j) = some (vs i j)) ∧ (∀ i cs j t, caps[i]? = some cs → cs[j]? = some t → RepT w (E.S τ) t (vs i j)) := by
    generalize a.eval x = u at hxv
    cases (show RepT w (E.S τ) (.clo f caps) u from hxv) with
    | @clo _ _ ads vs hcell hrep => exact ⟨ads, vs, rfl, hcell, hrep⟩
  obtain ⟨hok, hA⟩ := hA
  have hS : ∀ k, E.S τ k → Env.S ⟨w, 0, E.S τ, fun _ => False, Tie.empty⟩ Tie.empty k := fun k hk => ⟨.inl hk, fun n h => by cases h⟩
  have hargsv := hi.rep hr2 hs
  have hins : RepMs w (Env.S ⟨w, 0, E.S τ, fun _ => False, Tie.empty⟩ Tie.empty) Tie.empty (ins ++ caps.map fun cs => .one (.tptr cs 0)) (xs.map a.eval ++ (List.range caps.length).map fun i => (Value.pointer (some (ads i)))) := by
    refine ⟨by simp [hargsv.1], fun j m hj => ?_⟩
    by_cases e : j < ins.length
    · rw [List.getElem?_append_left e] at hj
      obtain ⟨u, hu, hrm⟩ := hargsv.2 j m hj
      refine ⟨u, ?_, RepM.step hrm (fun k _ hk => ⟨hS k hk, rfl⟩) ?_⟩
      · rw [List.getElem?_append_left (by rw [← hargsv.1]; exact e)]; exact hu
      · have := List.all_eq_true.1 hin m (List.mem_of_getElem? hj)
        rw [List.isEmpty_iff.1 this]
        simp
    · rw [List.getElem?_append_right (by omega)] at hj
      rw [List.getElem?_map] at hj
      cases hcs : caps[j - ins.length]? with
      | none => rw [hcs] at hj; simp at hj
      | some cs =>
        rw [hcs] at hj
        simp only [Option.map_some, Option.some.injEq] at hj
        subst hj
        have hlt : j - ins.length < caps.length := (List.getElem?_eq_some_iff.1 hcs).1
        refine ⟨.pointer (some (ads (j - ins.length))), ?_, ads (j - ins.length), ?_, fun i t ht => ?_⟩
        · rw [List.getElem?_append_right (by rw [← hargsv.1]; omega), ← hargsv.1, List.getElem?_map, List.getElem?_range hlt]
          rfl
        · unfold Addr.add; simp
        · obtain ⟨h1, h2⟩ := hcell _ _ _ _ hcs ht
          exact ⟨hS _ h1, _, h2, (hrep _ _ _ _ hcs ht).mono hS⟩
  have hcall := hA w (E.S τ) (fun _ => False) Tie.empty _ (sim_empty w _) hins
  refine wp_entered (run_call_value ho hxe hok) (R := _) (by
    have : (args.map a.eval ++ ((List.range caps.length).map fun i => (.pointer (some (ads i)) : Value)).toArray) = (xs.map a.eval ++ (List.range caps.length).map fun i => (Value.pointer (some (ads i)))).toArray := by
      subst hargs
      simp
    rw [this]
    exact hcall) ?_
  rintro e w' ⟨v, τ', rfl, hs', hv, _⟩
  refine ⟨v, rfl, ?_⟩
  rw [hd]
  have h1 := hs.called hs'
  refine hk _ _ ⟨τ, h1.put hN (RepM.step hv (fun k hk' hS' => ⟨?_, rfl⟩) (by rw [hon]; simp))⟩
  rcases hS'.1 with h | h | h
  · exact h
  · exact h.elim
  · have hsz : w.heap.size ≤ k := h
    refine ⟨.inr (.inr (Nat.le_trans hs.grow hsz)), fun n hn => ?_⟩
    have := (hs.acc n k hn).1
    omega
theorem clo_func {f : FuncId} {w : World} {S : Nat → Prop} : RepT w S (.clo f []) (.func (.func f) #[] #[]) := RepT.clo (w := w) (S := S) (f := f) (caps := []) (ads := fun _ => ⟨0, 0, none⟩) (vs := fun _ _ => .nilIface) (fun i cs j t h => by simp at h) (fun i cs j t h => by simp at h)
theorem EvR.clo {f : FuncId} : EvR (.func f) (.one (.t (.clo f []))) [] := fun _ _ _ _ _ _ _ => clo_func

/-- A call whose answer leads to no memory: rows may be lent. -/
theorem c_lend {d : Nat} {f : FuncId} {xs : List Operand} {args : Array Operand} {ts : Array TypeId} {ins : List M} {out : M} {rd : List (Loc × Val)} (ho : o.op = .call { callee := .value (.func f), args := args, argTypes := ts }) (hargs : args.toList = xs) (hd : o.dst = some d) (hN : d < N)
    (hA : ACalls P f ins [] out []) (hi : EvArgsB xs ins rd) (hon : out.bare = true) : LCore P N o rd [(.tmp d, .m out)] [] := by
  rintro E σ rfl hr _ K Q a w ⟨τ, hs⟩ hk
  obtain ⟨hok, hA⟩ := hA
  have hins := hi.rep hr hs Tie.empty
  have hins' : RepMs w (Env.S ⟨w, 0, fun _ => True, fun _ => False, Tie.empty⟩ Tie.empty) Tie.empty ins (xs.map a.eval) := ⟨hins.1, fun j m hj => by
    obtain ⟨u, hu, h⟩ := hins.2 j m hj
    exact ⟨u, hu, RepM.step h (fun k _ _ => ⟨⟨.inl trivial, fun n h => by cases h⟩, rfl⟩) (fun _ _ => ⟨rfl, rfl⟩)⟩⟩
  have hcall := hA w (fun _ => True) (fun _ => False) Tie.empty _ (sim_empty w _) hins'
  refine wp_entered (run_call_value ho (caps := #[]) rfl hok) (R := _) (by
    have : args.map a.eval ++ #[] = (xs.map a.eval).toArray := by
      subst hargs
      apply Array.ext'
      simp
    rw [this]
    exact hcall) ?_
  rintro e w' ⟨v, τ', rfl, hs', hv, _⟩
  refine ⟨v, rfl, ?_⟩
  rw [hd]
  exact hk _ _ ⟨τ, (hs.called hs').put hN (RepM.bare hon hv)⟩
end
end Go.PM
