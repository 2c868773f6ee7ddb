/- A part of a layer between the model's runs and plain values: steps of code simulate plain functions; no program is named here. -/
import Derived.Test.YtidgbllladaahaaPmF
set_option linter.all false
namespace Go.PM
open Go Go.RowKit

/-! ### States under other names -/
def ren : List (Nat × Nat) → Nat → Nat
  | [], n => n
  | (a, b) :: r, n => bif Nat.beq a n then b else ren r n
def inDom (ps : List (Nat × Nat)) (n : Nat) : Bool := ps.any fun p => Nat.beq p.1 n
/-- Different names have different old names; those of the caller stay. -/
def renOk : List (Nat × Nat) → Bool
  | [] => true
  | (a, b) :: r => (r.all fun p => !Nat.beq p.2 b) && (Nat.blt a 1000000 || Nat.ble 2000000 a || Nat.beq a b) && renOk r
def namesIn (ps : List (Nat × Nat)) (σ : St) : Bool := σ.all fun e => (e.1.names ++ e.2.names).all (inDom ps)
/-- y says no more than x. -/
def VLe (x y : Val) : Prop := ∀ (w : World) (S : Nat → Prop) (τ : Tie) (a : Act) (l : Loc), Holds w S τ a l x → Holds w S τ a l y
theorem VLe.refl {x : Val} : VLe x x := fun _ _ _ _ _ h => h
theorem VLe.of_eq {x y : Val} (h : x = y) : VLe x y := h ▸ .refl
def CLe (c d : C) : Prop := ∀ (w : World) (S : Nat → Prop) (τ : Tie) (v : Value), RepC w S τ c v → RepC w S τ d v
theorem CLe.refl {c : C} : CLe c c := fun _ _ _ _ h => h
theorem CLe.nil : CLe (.t (.v (.slice none 0 0))) (.t (.sl [])) := fun _ _ _ _ h => RepT.of_nil h
theorem CLe.tight {es : List (List T)} : CLe (.tight es) (.t (.sl es)) := fun _ _ _ _ h => h.2
theorem CLe.of_eq {c d : C} (h : c = d) : CLe c d := h ▸ .refl
theorem VLe.one {c d : C} (h : CLe c d) : VLe (.m (.one c)) (.m (.one d)) := fun w S τ a l hx => by
  cases l with
  | tmp t => exact h w S τ _ hx
  | _ => exact hx
theorem VLe.cell {c d : C} (h : CLe c d) : VLe (.c c) (.c d) := fun w S τ a l hx => by
  cases l with
  | cell n j =>
    obtain ⟨q1, q2, q3, u, q4, q5⟩ := hx
    exact ⟨q1, q2, q3, u, q4, h w S τ _ q5⟩
  | _ => exact hx
inductive CsLe : List C → List C → Prop
  | nil : CsLe [] []
  | cons {c d : C} {cs ds : List C} (h : CLe c d) (hn : CsLe cs ds) : CsLe (c :: cs) (d :: ds)
theorem CsLe.rep {cs ds : List C} (h : CsLe cs ds) {w : World} {S : Nat → Prop} {τ : Tie} {vs : List Value} (hx : RepCs w S τ cs vs) : RepCs w S τ ds vs := by
  induction h generalizing vs with
  | nil => exact hx
  | @cons c d cs ds h hn ih =>
    cases vs with
    | nil => have := hx.1; simp at this
    | cons v vs =>
      obtain ⟨h1, h2⟩ := ih (vs := vs) ⟨by simpa using hx.1, fun j c' hj => by simpa using hx.2 (j + 1) c' (by simpa using hj)⟩
      refine ⟨by simpa using h1, fun j c' hj => ?_⟩
      cases j with
      | zero =>
        simp only [List.getElem?_cons_zero, Option.some.injEq] at hj
        subst hj
        obtain ⟨u, hu, hr⟩ := hx.2 0 c rfl
        exact ⟨u, hu, h _ _ _ _ hr⟩
      | succ j => simpa using h2 j c' (by simpa using hj)
theorem VLe.agg {cs ds : List C} (h : CsLe cs ds) : VLe (.m (.agg cs)) (.m (.agg ds)) := fun w S τ a l hx => by
  cases l with
  | tmp t =>
    obtain ⟨vs, e, hr⟩ := hx
    exact ⟨vs, e, h.rep hr⟩
  | _ => exact hx
/-- A row's elements, said otherwise. -/
theorem VLe.row {e sz : Nat} {es es' : List (List T)} (h : es = es') : VLe (.r e sz es) (.r e sz es') := h ▸ .refl

def agreeR (ps : List (Nat × Nat)) (σ : St) : St → Prop
  | [] => True
  | (l, x) :: r => VLe (look σ (l.map (ren ps))) (x.map (ren ps)) ∧ agreeR ps σ r

theorem agreeR_mem {ps : List (Nat × Nat)} {σ : St} : ∀ {σ' : St}, agreeR ps σ σ' → ∀ l x, (l, x) ∈ σ' → VLe (look σ (l.map (ren ps))) (x.map (ren ps))
  | [], _, _, _, h => by simp at h
  | (l, x) :: r, hr, k, y, h => by
    rcases List.mem_cons.1 h with h | h
    · injection h with h1 h2; subst h1 h2; exact hr.1
    · exact agreeR_mem hr.2 k y h
theorem inDom_mem {ps : List (Nat × Nat)} {n : Nat} (h : inDom ps n = true) : (n, ren ps n) ∈ ps := by
  induction ps with
  | nil => simp [inDom] at h
  | cons p r ih =>
    obtain ⟨a, b⟩ := p
    by_cases e : a = n
    · subst e; simp [ren]
    · have e' : Nat.beq a n = false := by
        rw [Bool.eq_false_iff]
        exact fun h => e (Nat.eq_of_beq_eq_true h)
      simp only [ren, e', cond_false]
      refine List.mem_cons_of_mem _ (ih ?_)
      simpa [inDom, e] using h
theorem renOk_inj {ps : List (Nat × Nat)} (h : renOk ps = true) : ∀ {a a' b : Nat}, (a, b) ∈ ps → (a', b) ∈ ps → a = a' := by
  induction ps with
  | nil => intro a a' b h; simp at h
  | cons p r ih =>
    obtain ⟨x, y⟩ := p
    simp only [renOk, Bool.and_eq_true, List.all_eq_true] at h
    intro a a' b h1 h2
    rcases List.mem_cons.1 h1 with h1 | h1 <;> rcases List.mem_cons.1 h2 with h2 | h2
    · injection h1 with e1 e2; injection h2 with e3 e4; rw [e1, e3]
    · injection h1 with e1 e2; have := h.1.1 _ h2; simp [e2] at this
    · injection h2 with e1 e2; have := h.1.1 _ h1; simp [e2] at this
    · exact ih h.2 h1 h2
theorem renOk_big {ps : List (Nat × Nat)} (h : renOk ps = true) : ∀ {a b : Nat}, (a, b) ∈ ps → 1000000 ≤ a → a < 2000000 → a = b := by
  induction ps with
  | nil => intro a b h; simp at h
  | cons p r ih =>
    obtain ⟨x, y⟩ := p
    simp only [renOk, Bool.and_eq_true] at h
    intro a b h1 ha hb
    rcases List.mem_cons.1 h1 with h1 | h1
    · injection h1 with e1 e2
      subst e1 e2
      have := h.1.2
      simp only [Bool.or_eq_true, Nat.blt_eq, Nat.ble_eq] at this
      rcases this with (h | h) | h
      · omega
      · omega
      · exact Nat.eq_of_beq_eq_true h
    · exact ih h.2 h1 ha hb

def Tie.ren (τ : Tie) (ps : List (Nat × Nat)) : Tie :=
  { ρ := fun n => bif inDom ps n then τ.ρ (PM.ren ps n) else none, β := fun n => bif inDom ps n then τ.β (PM.ren ps n) else τ.β n, ν := fun n => bif inDom ps n then τ.ν (PM.ren ps n) else τ.ν n, κ := fun n => bif inDom ps n then τ.κ (PM.ren ps n) else τ.κ n }
theorem Tie.ren_via {τ : Tie} {ps : List (Nat × Nat)} {n : Nat} (h : inDom ps n = true) : τ.via (τ.ren ps) (PM.ren ps) n := by
  simp [Tie.via, Tie.ren, h]
theorem Tie.ren_kept {τ : Tie} {ps : List (Nat × Nat)} (h : renOk ps = true) : τ.kept (τ.ren ps) := fun n hn hm => by
  by_cases e : inDom ps n = true
  · have := renOk_big h (inDom_mem e) hn hm
    simp only [Tie.ren, e, cond_true, ← this]
    exact ⟨trivial, trivial, trivial, fun _ h => h⟩
  · simp only [Bool.not_eq_true] at e
    simp [Tie.ren, e]
theorem Tie.ren_ρ {τ : Tie} {ps : List (Nat × Nat)} {n k : Nat} (h : (τ.ren ps).ρ n = some k) : inDom ps n = true ∧ τ.ρ (PM.ren ps n) = some k := by
  simp only [Tie.ren] at h
  by_cases e : inDom ps n = true
  · rw [e] at h; exact ⟨e, h⟩
  · simp only [Bool.not_eq_true] at e; rw [e] at h; cases h
theorem Env.S_ren {E : Env} {τ : Tie} {ps : List (Nat × Nat)} {k : Nat} (h : E.S τ k) : E.S (τ.ren ps) k := ⟨h.1, fun n hn => h.2 _ (Tie.ren_ρ hn).2⟩

/-- The same world under another state: less is said, under other names; perhaps with another act. -/
theorem SimAt.ren {E : Env} {τ : Tie} {σ σ' : St} {a : Act} {w : World} (h : SimAt E τ σ a w) {ps : List (Nat × Nat)} (hok : renOk ps = true) (hin : namesIn ps σ' = true) (hag : agreeR ps σ σ')
    {N' : Nat} {a' : Act} (hN : N' ≤ 1000000) (ha : a'.defers = []) (hsz : a'.tmps.size = N') (ht : (N' = E.N ∧ a' = a) ∨ ∀ t, look σ' (.tmp t) = .gone) : SimAt { E with N := N' } (τ.ren ps) σ' a' w where
  dfr := ha
  nsz := hsz
  lim := hN
  tie := h.tie.trans (Tie.ren_kept hok)
  os := h.os
  tape := h.tape
  output := h.output
  grow := h.grow
  keep := h.keep
  inj n m k h1 h2 := by
    obtain ⟨d1, e1⟩ := Tie.ren_ρ h1
    obtain ⟨d2, e2⟩ := Tie.ren_ρ h2
    have := h.inj _ _ _ e1 e2
    have m1 := inDom_mem d1
    rw [this] at m1
    exact renOk_inj hok m1 (inDom_mem d2)
  acc n k h1 := h.acc _ k (Tie.ren_ρ h1).2
  get l := by
    by_cases hg : look σ' l = .gone
    · rw [hg]; cases l <;> exact trivial
    · have hmem := look_mem (l := l) (σ := σ') rfl hg
      have hl := agreeR_mem hag _ _ hmem
      have hd := List.all_eq_true.1 hin _ hmem
      simp only [List.all_eq_true, List.mem_append] at hd
      have hS : ∀ k, k < w.heap.size → E.S τ k → (E.S (τ.ren ps)) k ∧ w.heap[k]? = w.heap[k]? := fun k _ hk => ⟨Env.S_ren hk, rfl⟩
      have h0 := hl _ _ _ _ _ (h.get (l.map (PM.ren ps)))
      have key : ∀ {x : M}, look σ' l = .m x → ∀ t, l = .tmp t → a' = a → Holds w (E.S (τ.ren ps)) (τ.ren ps) a' l (look σ' l) := fun {x} hx t e ea => by
        subst e ea
        rw [hx] at h0 hd ⊢
        have h1 : RepM w (E.S τ) (τ.ren ps) x (a'.tmps.getD t undef) := RepM.map (fun n hn => Tie.ren_via (hd n (.inr hn))) h0
        exact RepM.step h1 hS (fun _ _ => ⟨rfl, rfl⟩)
      by_cases htmp : ∃ t, l = .tmp t
      · obtain ⟨t, rfl⟩ := htmp
        rcases ht with ⟨hNN, ea⟩ | ht
        · cases hx : look σ' (.tmp t) with
          | m x => have := key hx t rfl ea; rwa [hx] at this
          | gone => exact trivial
          | c x => rw [hx] at h0; exact h0.elim
          | r _ _ _ => rw [hx] at h0; exact h0.elim
          | o _ => rw [hx] at h0; exact h0.elim
        · exact absurd (ht t) hg
      · have h1 : Holds w (E.S τ) (τ.ren ps) a' l (look σ' l) := Holds.map (a := a) (fun t e => htmp ⟨t, e⟩) (fun n hn => Tie.ren_via (hd n (.inl hn))) (fun n hn => Tie.ren_via (hd n (.inr hn))) h0
        generalize look σ' l = x at h1
        cases x with
        | gone => cases l <;> exact trivial
        | m x => cases l with
          | tmp t => exact absurd ⟨t, rfl⟩ htmp
          | _ => exact h1
        | c x => cases l with
          | cell n j =>
            obtain ⟨q1, q2, q3, u, q4, q5⟩ := h1
            exact ⟨q1, q2, q3, u, q4, q5.step hS fun _ _ => ⟨rfl, rfl⟩⟩
          | _ => exact h1
        | r e sz es => cases l with
          | row n => exact ⟨h1.1, h1.2.1, h1.2.2.step hS (fun _ _ => rfl)⟩
          | _ => exact h1
        | o x => cases l with
          | obj n =>
            obtain ⟨q1, q2, o, q3, q4⟩ := h1
            exact ⟨q1, q2, o, q3, q4.step hS⟩
          | _ => exact h1

theorem Sim.ren {E : Env} {σ σ' : St} {a : Act} {w : World} (h : Sim E σ a w) (ps : List (Nat × Nat)) (hok : renOk ps = true) (hin : namesIn ps σ' = true) (hag : agreeR ps σ σ') : Sim E σ' a w := by
  obtain ⟨τ, h⟩ := h
  exact ⟨τ.ren ps, h.ren hok hin hag h.lim h.dfr h.nsz (.inl ⟨rfl, rfl⟩)⟩

section
variable {P : Program} {N : Nat} {σ : St} {Q : Exit → St → Prop}
/-- Where the state may be said in other words. -/
def Into (σ : St) (ps : List (Nat × Nat)) (σ' : St) : Prop := renOk ps = true ∧ namesIn ps σ' = true ∧ agreeR ps σ σ'
theorem aw_into {c : Code} {ps : List (Nat × Nat)} {σ' : St} (h : Into σ ps σ') (hn : AW P N c σ' Q) : AW P N c σ Q := aw_sub (fun _ _ _ _ hs => hs.ren ps h.1 h.2.1 h.2.2) hn
theorem al_into {c : Code} {n : Nat} {ps : List (Nat × Nat)} {σ' : St} (h : Into σ ps σ') (hn : AL P N c n σ' Q) : AL P N c n σ Q := al_sub (fun _ _ _ _ hs => hs.ren ps h.1 h.2.1 h.2.2) hn

theorem aw_post {c : Code} {Q Q' : Exit → St → Prop} (h : AW P N c σ Q') (hq : ∀ ex σ1, Q' ex σ1 → Q ex σ1 ∨ ∃ ps σ2, Into σ1 ps σ2 ∧ Q ex σ2) : AW P N c σ Q := fun E hN R a w hs hk => h E hN R a w hs fun ex σ' a' w' h' hs' => by
  rcases hq _ _ h' with h1 | ⟨ps, σ2, hi, h1⟩
  · exact hk ex σ' a' w' h1 hs'
  · exact hk ex σ2 a' w' h1 (hs'.ren ps hi.1 hi.2.1 hi.2.2)

/-- A loop: at its head the state is said by x, of which I tells. -/
theorem aw_loop_ind {α : Type} {c : Code} (st : α → St) (I : Nat → α → Prop) (K : Nat) (x0 : α) {ps : List (Nat × Nat)} (hi : Into σ ps (st x0)) (h0 : I K x0) (hz : ∀ x, ¬ I 0 x)
    (step : ∀ n x, I (n + 1) x → AW P N c (st x) (thenQ (fun σ' => ∃ y ps, I n y ∧ Into σ' ps (st y)) Q)) : AW P N (.loop c) σ Q := by
  have key : ∀ n x, I n x → AL P N c n (st x) Q := by
    intro n
    induction n with
    | zero => intro x h; exact absurd h (hz x)
    | succ n ih =>
      intro x h
      refine al_succ (aw_mono (step n x h) fun ex σ' hq => ?_)
      cases ex with
      | normal =>
        obtain ⟨y, ps, h1, h2⟩ := hq
        exact al_into h2 (ih y h1)
      | _ => exact hq
  exact aw_loop K (al_into hi (key K x0 h0))

/-- A meeting of ways: what comes then begins at a state that y says. -/
theorem aw_seq_cut {α : Type} {x y : Code} (st : α → St) (I : α → Prop) (h1 : AW P N x σ (thenQ (fun σ' => ∃ y ps, I y ∧ Into σ' ps (st y)) Q)) (h2 : ∀ v, I v → AW P N y (st v) Q) : AW P N (.seq x y) σ Q :=
  aw_seq (aw_mono h1 fun ex σ' hq => by
    cases ex with
    | normal =>
      obtain ⟨v, ps, hi, hin⟩ := hq
      exact aw_into hin (h2 v hi)
    | _ => exact hq)
end

/-! ### A function's contract -/
theorem look_tmpsAt : ∀ (ms : List M) (k : Nat) (σ : St) (t : Nat), look (tmpsAt k ms ++ σ) (.tmp t) = if h : k ≤ t ∧ t - k < ms.length then .m ms[t - k] else look σ (.tmp t)
  | [], _, _, _ => by simp [tmpsAt]
  | m :: r, k, σ, t => by
    show look ((Loc.tmp k, Val.m m) :: (tmpsAt (k + 1) r ++ σ)) (.tmp t) = _
    rw [look_cons]
    by_cases e : k = t
    · subst e; simp
    · rw [if_neg (by simpa using e), look_tmpsAt r (k + 1) σ t]
      by_cases h : k ≤ t ∧ t - k < (m :: r).length
      · have h' : k + 1 ≤ t ∧ t - (k + 1) < r.length := by simp at h; omega
        rw [dif_pos h, dif_pos h']
        have : t - k = (t - (k + 1)) + 1 := by omega
        simp only [this, List.getElem_cons_succ]
      · have h' : ¬ (k + 1 ≤ t ∧ t - (k + 1) < r.length) := by simp at h ⊢; omega
        rw [dif_neg h, dif_neg h']
theorem look_tmpsAt_heap : ∀ (ms : List M) (k : Nat) (σ : St) (l : Loc), (∀ t, l ≠ .tmp t) → look (tmpsAt k ms ++ σ) l = look σ l
  | [], _, _, _, _ => rfl
  | m :: r, k, σ, l, h => by
    show look ((Loc.tmp k, Val.m m) :: (tmpsAt (k + 1) r ++ σ)) l = _
    rw [look_cons_ne _ _ (fun e => h k e.symm)]
    exact look_tmpsAt_heap r (k + 1) σ l h

def noTmp (σ : St) : Bool := σ.all fun | (.tmp _, _) => false | _ => true
theorem noTmp_look {σ : St} (h : noTmp σ = true) (t : Nat) : look σ (.tmp t) = .gone := by
  by_cases e : look σ (.tmp t) = .gone
  · exact e
  · have := List.all_eq_true.1 h _ (look_mem rfl e)
    simp at this

/-- What is promised at a function's end. -/
def EndQ (P : Program) (fn : Func) (out : M) (post : St) (ex : Exit) (σ : St) : Prop :=
  (ex = .normal ∨ ex = .ret) ∧ ∃ os ps, FinR P σ fn.results.toList os ∧ outOf os = out.map (ren ps) ∧ (out.names.all (inDom ps) = true) ∧ (ps.all (fun p => Nat.ble 1000000 p.1) = true) ∧ Into σ ps post

theorem acalls_of_AW {P : Program} {f : FuncId} {fn : Func} {c : Code} {ins : List M} {pre : St} {out : M} {post : St} (hf : P.funcs[f]? = some fn) (hb : fn.body = some c) (hok : FnOk P f) (hN : fn.ntmps ≤ 1000000) (hl : ins.length ≤ fn.ntmps) (hpre : noTmp pre = true) (hpost : noTmp post = true)
    (h : AW P fn.ntmps c (tmpsAt 0 ins ++ pre) (EndQ P fn out post)) : ACalls P f ins pre out post := by
  refine ⟨hok, ?_⟩
  intro w S0 O τ vals hs hv
  have hll : ins.length = vals.length := hv.1
  let E : Env := ⟨w, fn.ntmps, S0, O, τ⟩
  have hs0 : SimAt E τ (tmpsAt 0 ins ++ pre) { tmps := vals.toArray ++ Array.replicate (fn.ntmps - vals.toArray.size) undef, defers := [] } w := {
    dfr := rfl
    nsz := by simp; show _ = fn.ntmps; omega
    lim := hN
    tie := .refl _
    os := rfl
    tape := rfl
    output := ⟨rfl, Nat.le_refl _⟩
    grow := Nat.le_refl _
    keep := fun _ _ _ => rfl
    inj := hs.inj
    acc := hs.acc
    get := fun l => by
      by_cases ht : ∃ t, l = .tmp t
      · obtain ⟨t, rfl⟩ := ht
        rw [look_tmpsAt]
        by_cases e : 0 ≤ t ∧ t - 0 < ins.length
        · rw [dif_pos e]
          obtain ⟨u, hu, hr⟩ := hv.2 t _ (List.getElem?_eq_getElem (by omega))
          simp only [Nat.sub_zero]
          show RepM _ _ _ _ (Array.getD _ t undef)
          have : (vals.toArray ++ Array.replicate (fn.ntmps - vals.toArray.size) undef).getD t undef = u := by
            rw [Array.getD_eq_getD_getElem?, Array.getElem?_append_left (by simp; omega)]
            simp [hu]
          rw [this]
          exact hr
        · rw [dif_neg e, noTmp_look hpre]
          exact trivial
      · rw [look_tmpsAt_heap _ _ _ _ (fun t e => ht ⟨t, e⟩)]
        have := hs.get l
        generalize look pre l = x at this
        cases x with
        | m x => cases l with
          | tmp t => exact absurd ⟨t, rfl⟩ ht
          | _ => exact this
        | _ => cases l <;> exact this }
  refine calls_of_wp hf hb (h E rfl _ _ _ ⟨τ, hs0⟩ fun ex σ' a' w' hq hs' => ?_)
  obtain ⟨hex, os, ps, hfin, hout, hon, hbig, hinto⟩ := hq
  obtain ⟨τ1, hs1⟩ := hs'
  obtain ⟨v, hrun, hrep⟩ := hfin.results hs1
  have hdf : a'.defers = [] := hs1.dfr
  have hend : ∃ v τ', (Ending.returned v : Ending) = .returned v ∧ (results fn a'.tmps).run P w' = .ok v w' ∧ SimAt ⟨w, 0, S0, O, τ⟩ τ' post ⟨#[], []⟩ w' ∧ RepM w' (Env.S ⟨w, 0, S0, O, τ⟩ τ') τ' out v ∧ ∀ n k, τ'.ρ n = some k → 2000000 ≤ n ∨ τ.ρ n = some k := by
    refine ⟨v, τ1.ren ps, rfl, hrun, hs1.ren hinto.1 hinto.2.1 hinto.2.2 (by omega) rfl rfl (.inr fun t => noTmp_look hpost t), ?_, fun n k hk => ?_⟩
    · rw [hout] at hrep
      have h1 : RepM w' (E.S τ1) (τ1.ren ps) out v := RepM.map (fun n hn => Tie.ren_via (List.all_eq_true.1 hon n hn)) hrep
      exact RepM.step h1 (fun k _ hk => ⟨Env.S_ren (E := E) hk, rfl⟩) fun _ _ => ⟨rfl, rfl⟩
    · obtain ⟨hd, hr⟩ := Tie.ren_ρ hk
      have hb1 := List.all_eq_true.1 hbig _ (inDom_mem hd)
      simp only [Nat.ble_eq] at hb1
      by_cases h2 : 2000000 ≤ n
      · exact .inl h2
      · right
        have e := renOk_big hinto.1 (inDom_mem hd) hb1 (by omega)
        rw [← e] at hr
        exact (hs1.tie n hb1 (by omega)).2.2.2 k hr
  obtain ⟨v', τ', _, h1, h2, h3, h4⟩ := hend
  rcases hex with rfl | rfl
  · exact ⟨hdf, v', h1, v', τ', rfl, h2, h3, h4⟩
  · exact ⟨hdf, v', h1, v', τ', rfl, h2, h3, h4⟩
end Go.PM
