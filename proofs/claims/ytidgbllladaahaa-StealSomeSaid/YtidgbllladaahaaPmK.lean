/- A part of a layer between the model's runs and plain values: steps of code simulate plain functions; no program is named here. -/
import Derived.Test.YtidgbllladaahaaPmJ
set_option linter.all false
namespace Go.PM
open Go Go.RowKit

section
variable {P : Program} {N : Nat} {o : Oper}

/-- What a call has made comes under new names. -/
theorem SimAt.calledNew {E : Env} {τ : Tie} {σ : St} {a : Act} {w w' : World} (h : SimAt E τ σ a w) {τ' : Tie} {post post' : St} {a' : Act} {qs : List (Nat × Nat)} (hc : SimAt ⟨w, 0, E.S τ, fun _ => False, Tie.empty⟩ τ' post a' w')
    (hok : renOk qs = true) (hlim : ∀ n, inDom qs n = true → n < 1000000) (hfr : ∀ n, inDom qs n = true → Fresh n σ) (hin : namesIn qs post' = true) (hag : agreeR qs post post') (hnt : noTmp post' = true) {out' : M} {v : Value} (hon : out'.names.all (inDom qs) = true)
    (hv : RepM w' (Env.S ⟨w, 0, E.S τ, fun _ => False, Tie.empty⟩ τ') τ' (out'.map (PM.ren qs)) v) :
    ∃ τ'', SimAt E τ'' (post' ++ σ) a w' ∧ RepM w' (E.S τ'') τ'' out' v := by
  let τ'' : Tie := { ρ := fun n => bif inDom qs n then τ'.ρ (PM.ren qs n) else τ.ρ n, β := fun n => bif inDom qs n then τ'.β (PM.ren qs n) else τ.β n, ν := fun n => bif inDom qs n then τ'.ν (PM.ren qs n) else τ.ν n, κ := fun n => bif inDom qs n then τ'.κ (PM.ren qs n) else τ.κ n }
  have hvia : ∀ n, inDom qs n = true → τ'.via τ'' (PM.ren qs) n := fun n hn => by simp [Tie.via, τ'', hn]
  have hold : ∀ n, inDom qs n = false → τ''.ρ n = τ.ρ n ∧ τ''.β n = τ.β n ∧ τ''.ν n = τ.ν n ∧ τ''.κ n = τ.κ n := fun n hn => by simp [τ'', hn]
  have hρ : ∀ n k, τ''.ρ n = some k → (inDom qs n = true ∧ τ'.ρ (PM.ren qs n) = some k ∧ w.heap.size ≤ k ∧ k < w'.heap.size) ∨ (inDom qs n = false ∧ τ.ρ n = some k ∧ k < w.heap.size) := fun n k hk => by
    by_cases e : inDom qs n = true
    · left
      have hk' : τ'.ρ (PM.ren qs n) = some k := by simpa [τ'', e] using hk
      obtain ⟨h1, h2⟩ := hc.acc _ k hk'
      rcases h2 with h2 | h2
      · exact ⟨e, hk', h2, h1⟩
      · exact h2.elim
    · simp only [Bool.not_eq_true] at e
      have hk' : τ.ρ n = some k := by rw [← (hold n e).1]; exact hk
      exact .inr ⟨e, hk', (h.acc n k hk').1⟩
  have hS : ∀ k, Env.S ⟨w, 0, E.S τ, fun _ => False, Tie.empty⟩ τ' k → E.S τ'' k := fun k hk => by
    refine ⟨?_, fun n hn => ?_⟩
    · rcases hk.1 with h1 | h1 | h1
      · exact h1.1
      · exact h1.elim
      · exact .inr (.inr (Nat.le_trans h.grow h1))
    · rcases hρ n k hn with ⟨_, h1, _⟩ | ⟨_, h1, h2⟩
      · exact hk.2 _ h1
      · rcases hk.1 with h3 | h3 | h3
        · exact h3.2 n h1
        · exact h3.elim
        · exact absurd h2 (by have : w.heap.size ≤ k := h3; omega)
  refine ⟨τ'', ?_, ?_⟩
  · refine h.move hc.os hc.tape hc.output hc.grow (fun k hk _ => hc.keep k hk (fun h => h)) ?_ ?_ ?_ ?_ ?_
    · intro n m k h1 h2
      rcases hρ n k h1 with ⟨d1, q1, s1, _⟩ | ⟨d1, q1, s1⟩ <;> rcases hρ m k h2 with ⟨d2, q2, s2, _⟩ | ⟨d2, q2, s2⟩
      · have := hc.inj _ _ _ q1 q2
        have m1 := inDom_mem d1
        rw [this] at m1
        exact renOk_inj hok m1 (inDom_mem d2)
      · omega
      · omega
      · exact h.inj n m k q1 q2
    · intro n k h1
      rcases hρ n k h1 with ⟨_, _, _, s⟩ | ⟨_, _, s⟩
      · exact s
      · exact Nat.lt_of_lt_of_le s hc.grow
    · intro n k h1 hlt
      rcases hρ n k h1 with ⟨_, _, s, _⟩ | ⟨_, q, _⟩
      · omega
      · exact ⟨n, q⟩
    · intro n hn _
      have : inDom qs n = false := by
        rw [Bool.eq_false_iff]
        intro e
        have := hlim n e
        omega
      obtain ⟨h1, h2, h3, h4⟩ := hold n this
      exact ⟨h2, h3, h4, fun k hk => by rw [← h1]; exact hk⟩
    · intro hs l
      rw [look_append]
      cases hw : has l post' with
      | true =>
        simp only [cond_true]
        by_cases hg : look post' l = .gone
        · rw [hg]; cases l <;> exact trivial
        have hmem := look_mem (l := l) (σ := post') rfl hg
        have hl := agreeR_mem hag _ _ hmem
        have hd := List.all_eq_true.1 hin _ hmem
        simp only [List.all_eq_true, List.mem_append] at hd
        have htmp : ∀ t, l ≠ .tmp t := by
          rintro t rfl
          exact hg (noTmp_look hnt t)
        have h0 := hl _ _ _ _ _ (hc.get (l.map (PM.ren qs)))
        have h1 : Holds w' _ τ'' a l (look post' l) := Holds.map (a := a') htmp (fun n hn => hvia n (hd n (.inl hn))) (fun n hn => hvia n (hd n (.inr hn))) h0
        generalize look post' l = x at h1
        have hst : ∀ k, k < w'.heap.size → Env.S ⟨w, 0, E.S τ, fun _ => False, Tie.empty⟩ τ' k → E.S τ'' k ∧ w'.heap[k]? = w'.heap[k]? := fun k _ hk => ⟨hS k hk, rfl⟩
        cases x with
        | gone => cases l <;> exact trivial
        | m x => cases l with
          | tmp t => exact absurd rfl (htmp t)
          | _ => exact h1
        | c x => cases l with
          | cell n j =>
            obtain ⟨q1, q2, q3, u, q4, q5⟩ := h1
            exact ⟨q1, q2, q3, u, q4, q5.step hst fun _ _ => ⟨rfl, rfl⟩⟩
          | _ => exact h1
        | r e sz es => cases l with
          | row n => exact ⟨h1.1, h1.2.1, h1.2.2.step hst (fun _ _ => rfl)⟩
          | _ => exact h1
        | o x => cases l with
          | obj n =>
            obtain ⟨q1, q2, o, q3, q4⟩ := h1
            exact ⟨q1, q2, o, q3, q4.step hst⟩
          | _ => exact h1
      | false =>
        simp only [cond_false]
        by_cases hg : look σ l = .gone
        · rw [hg]; cases l <;> exact trivial
        have hno : ∀ n, n ∈ l.names ∨ n ∈ (look σ l).names → inDom qs n = false := fun n hn => by
          rw [Bool.eq_false_iff]
          intro e
          rcases hn with hn | hn
          · exact hg (look_fresh (hfr n e) hn)
          · exact names_fresh (hfr n e) l hn
        refine (h.get l).step hs (fun n hn => ?_) (fun n hn => ?_)
        · obtain ⟨_, h2, h3, _⟩ := hold n (hno n (.inr hn))
          exact ⟨h2, h3⟩
        · obtain ⟨h1, h2, h3, h4⟩ := hold n (hno n (.inl hn))
          exact ⟨h2, h3, h4, h1, fun k hk => hc.keep k (h.acc n k hk).1 (fun h => h)⟩
  · have h1 : RepM w' _ τ'' out' v := RepM.map (fun n hn => hvia n (List.all_eq_true.1 hon n hn)) hv
    exact RepM.step h1 (fun k _ hk => ⟨hS k hk, rfl⟩) fun _ _ => ⟨rfl, rfl⟩

/-- A call of a function that is handed values alone, and makes objects. -/
theorem c_callNew {d : Nat} {f : FuncId} {xs : List Operand} {args : Array Operand} {ts : Array TypeId} {ins : List M} {out out' : M} {post post' : St} {qs : List (Nat × Nat)} {nw : List Nat} {rd : List (Loc × Val)} (ho : o.op = .call { callee := .value (.func f), args := args, argTypes := ts }) (hargs : args.toList = xs) (hd : o.dst = some d) (hN : d < N)
    (hA : ACalls P f ins [] out post) (hi : EvArgs xs ins rd) (hin : ins.all (fun m => m.names.isEmpty) = true) (hq : qs.map (·.1) = nw) (hlim : nw.all (Nat.blt · 1000000) = true) (hok : renOk qs = true) (hp : namesIn qs post' = true) (hag : agreeR qs post post') (hnt : noTmp post' = true) (hon : out'.names.all (inDom qs) = true) (hout : out = out'.map (ren qs)) :
    LCore P N o rd ((.tmp d, .m out') :: post') nw := by
  rintro E σ rfl hr hf K Q a w ⟨τ, hs⟩ hk
  obtain ⟨hokf, hA⟩ := hA
  have hargsv := hi.rep hr hs
  have hdom : ∀ n, inDom qs n = true → n ∈ nw := fun n hn => by
    rw [← hq]
    exact List.mem_map.2 ⟨_, inDom_mem hn, rfl⟩
  have hS : ∀ k, E.S τ k → Env.S ⟨w, 0, E.S τ, fun _ => False, Tie.empty⟩ Tie.empty k := fun k hk => ⟨.inl hk, fun n h => by cases h⟩
  have hins : RepMs w (Env.S ⟨w, 0, E.S τ, fun _ => False, Tie.empty⟩ Tie.empty) Tie.empty ins (xs.map a.eval) := ⟨hargsv.1, fun j m hj => by
    obtain ⟨u, hu, hrm⟩ := hargsv.2 j m hj
    refine ⟨u, hu, RepM.step hrm (fun k _ hk => ⟨hS k hk, rfl⟩) ?_⟩
    have := List.all_eq_true.1 hin m (List.mem_of_getElem? hj)
    rw [List.isEmpty_iff.1 this]
    simp⟩
  have hcall := hA w (E.S τ) (fun _ => False) Tie.empty _ (sim_empty w _) hins
  refine wp_entered (run_call_value ho (caps := #[]) rfl hokf) (R := _) (by
    have : args.map a.eval ++ #[] = (xs.map a.eval).toArray := by
      subst hargs
      apply Array.ext'
      simp
    rw [this]
    exact hcall) ?_
  rintro e w' ⟨v, τ', rfl, hs', hv, _⟩
  refine ⟨v, rfl, ?_⟩
  rw [hd]
  rw [hout] at hv
  obtain ⟨τ'', h1, h2⟩ := hs.calledNew hs' hok (fun n hn => by simpa using List.all_eq_true.1 hlim n (hdom n hn)) (fun n hn => hf n (hdom n hn)) hp hag hnt hon hv
  exact hk _ _ ⟨τ'', h1.put hN h2⟩

/-! ### Closures that hold boxes that are written no more -/
inductive EvCaps : List Operand → List (List T) → List (Loc × Val) → Prop
  | nil : EvCaps [] [] []
  | cons {x : Operand} {cs : List T} {r : List (Loc × Val)} {xs : List Operand} {css : List (List T)} {rd : List (Loc × Val)} (hx : EvR x (.one (.tptr cs 0)) r) (hn : EvCaps xs css rd) : EvCaps (x :: xs) (cs :: css) (r ++ rd)
theorem c_makeClo {d : Nat} {f : FuncId} {xs : List Operand} {caps : List (List T)} {rd : List (Loc × Val)} (ho : o.op = .makeFunc (.func f) #[] xs.toArray) (hd : o.dst = some d) (hN : d < N) (h : EvCaps xs caps rd) : LCore P N o rd [(.tmp d, .m (.one (.t (.clo f caps))))] [] :=
  c_pure hd hN fun E τ σ a w hr hs => by
    refine ⟨.func (.func f) #[] (xs.map a.eval).toArray, by simp only [execOp, ho]; exact run_value (fun x => Next.value x) (by simp [Instr.makeFunc]), ?_⟩
    have key : ∀ {xs : List Operand} {caps : List (List T)} {rd : List (Loc × Val)}, EvCaps xs caps rd → agree σ rd → ∃ (ads : Nat → Addr) (vs : Nat → Nat → Value), xs.map a.eval = (List.range caps.length).map (fun i => (.pointer (some (ads i)) : Value)) ∧
        (∀ i cs j t, caps[i]? = some cs → cs[j]? = some t → E.S τ (ads i).block ∧ w.cell? ((ads i).add j) = some (vs i j)) ∧ ∀ i cs j t, caps[i]? = some cs → cs[j]? = some t → RepT w (E.S τ) t (vs i j) := by
      intro xs caps rd h
      induction h with
      | nil => intro _; exact ⟨fun _ => ⟨0, 0, none⟩, fun _ _ => .nilIface, rfl, fun i cs j t h => by simp at h, fun i cs j t h => by simp at h⟩
      | @cons x cs r xs css rd hx _ ih =>
        intro hr
        obtain ⟨hr1, hr2⟩ := agree_append.1 hr
        obtain ⟨ads, vs, e1, e2, e3⟩ := ih hr2
        obtain ⟨ad, hv, hcell⟩ := hx E τ σ a w hr1 hs
        have h0 : ad.add 0 = ad := by unfold Addr.add; simp
        refine ⟨fun i => if i = 0 then ad else ads (i - 1), fun i j => if i = 0 then (w.cell? (ad.add j)).getD undef else vs (i - 1) j, ?_, ?_, ?_⟩
        · rw [List.map_cons, e1, hv, h0, List.length_cons, List.range_succ_eq_map, List.map_cons, List.map_map]
          simp [Function.comp_def]
        · intro i c j t h1 h2
          cases i with
          | zero =>
            simp only [List.getElem?_cons_zero, Option.some.injEq] at h1
            subst h1
            obtain ⟨hS, u, hu, _⟩ := hcell j t h2
            simp only [if_true, hu, Option.getD_some, and_true]
            exact hS
          | succ i => simpa using e2 i c j t (by simpa using h1) h2
        · intro i c j t h1 h2
          cases i with
          | zero =>
            simp only [List.getElem?_cons_zero, Option.some.injEq] at h1
            subst h1
            obtain ⟨_, u, hu, hrep⟩ := hcell j t h2
            simp only [if_true, hu, Option.getD_some]
            exact hrep
          | succ i => simpa using e3 i c j t (by simpa using h1) h2
    obtain ⟨ads, vs, e1, e2, e3⟩ := key h hr
    show RepT w (E.S τ) (.clo f caps) _
    rw [e1]
    exact .clo e2 e3

/-! ### An element of many cells is written -/
theorem row_cell {E : Env} {τ : Tie} {σ : St} {a : Act} {w : World} (h : SimAt E τ σ a w) {n e sz i j b : Nat} {es : List (List T)} {cs : List T} (hn : look σ (.row n) = .r e sz es) (hi : es[i]? = some cs) (hj : j < sz) (hb : (τ.ν n).ownBlock = some b) :
    (∃ u, w.cell? ⟨b, i * sz + j, none⟩ = some u) ∧ w.frozen? ⟨b, i * sz + j, none⟩ = false := by
  have hrow := h.get (.row n)
  rw [hn] at hrow
  obtain ⟨_, _, _, hsz, xs, ho', hrep'⟩ := hrow
  have hcl := hsz cs (List.mem_of_getElem? hi)
  obtain ⟨u, hu, _⟩ := hrep' i cs j _ hi (List.getElem?_eq_getElem (by omega))
  have hcell := ho'.cells hb _ _ hu
  have ha : (⟨b, 0, none⟩ : Addr).add (i * sz + j) = ⟨b, i * sz + j, none⟩ := by unfold Addr.add; split <;> simp_all
  rw [ha] at hcell
  refine ⟨⟨u, hcell⟩, ?_⟩
  rcases ho'.2 with ⟨hz, _⟩ | ⟨g, cap, cur, hz, _⟩
  · rw [hz] at hb; simp [Value.ownBlock] at hb
  · have hg : g = b := by rw [hz] at hb; simpa [Value.ownBlock] using hb
    subst hg
    rw [hz] at ho'
    exact ho'.frozenAt _

theorem SimAt.rowStores {E : Env} {τ : Tie} {a : Act} {n e sz i j0 b : Nat} (hb : (τ.ν n).ownBlock = some b) : ∀ (ts : List T) (us : List Value) (j : Nat) (es : List (List T)) (cs : List T) (σ : St) (w : World), SimAt E τ σ a w → look σ (.row n) = .r e sz es → es[i]? = some cs → j0 + j + ts.length ≤ sz → ts.length = us.length →
    (∀ (k : Nat) (t : T), ts[k]? = some t → ∃ u, us[k]? = some u ∧ RepT w (E.S τ) t u) →
    ∃ w', (storeCells ⟨b, i * sz + j0, none⟩ us j).run P w = .ok () w' ∧ SimAt E τ ((.row n, .r e sz (es.set i (splice cs (j0 + j) ts))) :: σ) a w' := by
  intro ts
  induction ts with
  | nil =>
    intro us j es cs σ w h hn hi hl hlen hu
    obtain rfl : us = [] := List.eq_nil_of_length_eq_zero hlen.symm
    have : es.set i cs = es := by
      refine List.ext_getElem? fun k => ?_
      by_cases e : i = k
      · subst e; rw [List.getElem?_set_self (List.getElem?_eq_some_iff.1 hi).1, hi]
      · rw [List.getElem?_set_ne e]
    refine ⟨w, rfl, ?_⟩
    simp only [splice]
    rw [this]
    exact h.relabel hn (fun h => h)
  | cons t ts ih =>
    intro us j es cs σ w h hn hi hl hlen hu
    cases us with
    | nil => simp at hlen
    | cons u us =>
      obtain ⟨u', hu', ht⟩ := hu 0 t rfl
      simp only [List.getElem?_cons_zero, Option.some.injEq] at hu'
      subst hu'
      have hj : j0 + j < sz := by simp at hl; omega
      obtain ⟨⟨u0, hcell⟩, hfz⟩ := row_cell h hn hi hj hb
      have h1 := h.rowStore hn hi hj ht hb
      have hil : i < es.length := (List.getElem?_eq_some_iff.1 hi).1
      obtain ⟨w', hrun, h2⟩ := ih us (j + 1) (es.set i (cs.set (j0 + j) t)) (cs.set (j0 + j) t) _ _ h1 (look_cons_same _ _ _) (List.getElem?_set_self hil) (by simp at hl; omega) (by simpa using hlen) (fun k t' hk => by
        obtain ⟨u', hu', ht'⟩ := hu (k + 1) t' (by simpa using hk)
        refine ⟨u', by simpa using hu', ht'.step fun q _ hq => ⟨hq, Below.heap_setCell w _ u q ?_⟩⟩
        rintro rfl
        have hr := h.get (.row n)
        rw [hn] at hr
        exact hq.2 n (by rw [← hr.2.1]; exact hb))
      refine ⟨w', ?_, ?_⟩
      · have hadd : (⟨b, i * sz + j0, none⟩ : Addr).add j = ⟨b, i * sz + (j0 + j), none⟩ := by unfold Addr.add; split <;> simp_all [Nat.add_assoc]
        have hst : (Go.store (⟨b, i * sz + (j0 + j), none⟩ : Addr) u).run P w = .ok () (w.setCell ⟨b, i * sz + (j0 + j), none⟩ u) := by
          rw [run_store P w _ u .plain ht.one, hcell]
          simp [hfz]
        simp only [storeCells, hadd, Sem.run_bind, hst, Result.andThen_ok]
        exact hrun
      · rw [List.set_set] at h2
        refine h2.less fun l => ?_
        right
        show look ((Loc.row n, Val.r e sz (es.set i (splice (cs.set (j0 + j) t) (j0 + j + 1) ts))) :: σ) l = _
        rw [look_cons, look_cons, Nat.add_assoc]
        split
        · rfl
        · rename_i e; rw [look_cons_ne _ _ e]

theorem c_storeRowN {t : TypeId} {x y : Operand} {r e sz i0 j0 : Nat} {es : List (List T)} {cs ts : List T} {i : TypeInfo} {rx ry : List (Loc × Val)} (he : es[i0]? = some cs) (hj : j0 + ts.length ≤ sz) (ho : o.op = .store t x y) (hd : o.dst = none) (hi : P.info? t = some i) (h1 : i.size = ts.length)
    (hx : EvR x (.one (.eptr r sz i0 j0)) rx) (hy : EvR y (.agg (ts.map .t)) ry) : LCore P N o (rx ++ ry ++ [(.row r, .r e sz es)]) [(.row r, .r e sz (es.set i0 (splice cs j0 ts)))] [] := by
  rintro E σ rfl hr _ K Q a w ⟨τ, hs⟩ hk
  obtain ⟨hr1, hr2⟩ := agree_append.1 hr
  obtain ⟨b, hb, hv⟩ := hx E τ σ a w (agree_append.1 hr1).1 hs
  obtain ⟨vs, hev, hrep⟩ := hy E τ σ a w (agree_append.1 hr1).2 hs
  obtain ⟨w', hrun, hsim⟩ := SimAt.rowStores (P := P) (j0 := j0) hb ts vs.toList 0 es cs σ w hs hr2.1 he (by omega) (by simpa using hrep.1) (fun k t' hk => by
    obtain ⟨u, hu, h⟩ := hrep.2 k (.t t') (by rw [List.getElem?_map, hk]; rfl)
    exact ⟨u, hu, h⟩)
  refine wp_skipped (w' := w') ?_ ?_
  · simp only [execOp, ho, hv, hev]
    refine run_unit ?_
    have hsz : vs.size = i.size := by have := hrep.1; simp at this; omega
    simp [Instr.storeAt, Instr.sureAddr, storeVar, sizeOf, typeInfo, hi, Value.cells, hsz, hrun]
  · rw [hd]
    rw [Nat.add_zero] at hsim
    exact hk _ _ ⟨τ, hsim⟩
end
end Go.PM
