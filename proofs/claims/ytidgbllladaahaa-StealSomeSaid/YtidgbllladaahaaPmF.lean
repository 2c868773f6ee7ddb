/- A part of a layer between the model's runs and plain values: steps of code simulate plain functions; no program is named here. -/
import Derived.Test.YtidgbllladaahaaPmE
import Derived.LoopN
set_option linter.all false
namespace Go.PM
open Go Go.RowKit

/-! ### Code -/
def AW (P : Program) (N : Nat) (c : Code) (σ : St) (Q : Exit → St → Prop) : Prop :=
  ∀ (E : Env), E.N = N → ∀ (R : Exit → Act → World → Prop) (a : Act) (w : World), Sim E σ a w → (∀ ex σ' a' w', Q ex σ' → Sim E σ' a' w' → R ex a' w') → c.wp P R a w

def AL (P : Program) (N : Nat) (c : Code) (n : Nat) (σ : St) (Q : Exit → St → Prop) : Prop :=
  ∀ (E : Env), E.N = N → ∀ (R : Exit → Act → World → Prop) (a : Act) (w : World), Sim E σ a w → (∀ ex σ' a' w', Q ex σ' → Sim E σ' a' w' → R ex a' w') → Code.rounds P c R n a w

def thenQ (K : St → Prop) (Q : Exit → St → Prop) : Exit → St → Prop
  | .normal, σ => K σ
  | ex, σ => Q ex σ
def blockQ (id : Nat) (Q : Exit → St → Prop) : Exit → St → Prop
  | .exit i, σ => if i = id then Q .normal σ else Q (.exit i) σ
  | ex, σ => Q ex σ

section
variable {P : Program} {N : Nat} {σ σ' : St} {Q : Exit → St → Prop}

theorem aw_skip (h : Q .normal σ) : AW P N .skip σ Q := fun _ _ _ _ _ hs hk => wp_skip (hk _ _ _ _ h hs)
theorem aw_exit {i : Nat} (h : Q (.exit i) σ) : AW P N (.exit i) σ Q := fun _ _ _ _ _ hs hk => wp_exit (hk _ _ _ _ h hs)
theorem aw_ret (h : Q .ret σ) : AW P N .ret σ Q := fun _ _ _ _ _ hs hk => wp_ret (hk _ _ _ _ h hs)
theorem aw_seq {x y : Code} (h : AW P N x σ (thenQ (fun σ' => AW P N y σ' Q) Q)) : AW P N (.seq x y) σ Q := fun E hN R a w hs hk =>
  wp_seq (h E hN _ a w hs fun ex σ' a' w' hq hs' => by
    cases ex with
    | normal => exact hq E hN R a' w' hs' hk
    | _ => exact hk _ σ' a' w' hq hs')
theorem aw_block {i : Nat} {c : Code} (h : AW P N c σ (blockQ i Q)) : AW P N (.block i c) σ Q := fun E hN R a w hs hk =>
  wp_block (h E hN _ a w hs fun ex σ' a' w' hq hs' => by
    cases ex with
    | exit j =>
      simp only [blockQ] at hq
      simp only [Exit.inBlock]
      split
      · rename_i e; rw [if_pos e] at hq; exact hk _ _ _ _ hq hs'
      · rename_i e; rw [if_neg e] at hq; exact hk _ _ _ _ hq hs'
    | _ => exact hk _ σ' a' w' hq hs')
theorem aw_cond {c : Operand} {x y : Code} {b : Bool} {rd : List (Loc × Val)} (hc : EvR c (.one (.t (.v (.bool b)))) rd) (hr : agree σ rd) (h1 : b = true → AW P N x σ Q) (h2 : b = false → AW P N y σ Q) : AW P N (.cond c x y) σ Q := fun E hN R a w hs hk => by
  obtain ⟨τ, hs'⟩ := hs
  refine wp_cond (t := b) (hc.val hr hs') ?_
  cases b with
  | true => exact h1 rfl E hN R a w ⟨τ, hs'⟩ hk
  | false => exact h2 rfl E hN R a w ⟨τ, hs'⟩ hk
theorem aw_loop {c : Code} (n : Nat) (h : AL P N c n σ Q) : AW P N (.loop c) σ Q := fun E hN R a w hs hk => wp_loop_rounds n (h E hN R a w hs hk)
theorem al_succ {c : Code} {n : Nat} (h : AW P N c σ (thenQ (fun σ' => AL P N c n σ' Q) Q)) : AL P N c (n + 1) σ Q := fun E hN R a w hs hk => by
  rw [rounds_succ]
  exact h E hN _ a w hs fun ex σ' a' w' hq hs' => by
    cases ex with
    | normal => exact hq E hN R a' w' hs' hk
    | _ => exact hk _ σ' a' w' hq hs'

theorem aw_region {i : Nat} {ops : Array Oper} {es : List Ent} (h : Chain P N ops ops.toList σ es σ') (hq : Q .normal σ') : AW P N (.region i ops false) σ Q := fun _ hN _ _ _ hs hk =>
  wp_region_list (h.wpList hN hs fun _ _ hs' => hk _ _ _ _ hq hs')
theorem aw_region_draw {i : Nat} {ops : Array Oper} {es : List Ent} (hm : P.follows .mixedOrders = true) (h : Chain P N ops ops.toList σ es σ') (hp : pairsOk (masks ops.toList []) 0 (es.map Ent.lean) = true) (he : edgesOk 0 ops.toList = true) (hq : Q .normal σ') : AW P N (.region i ops true) σ Q := fun E hN R a w hs hk => by
  refine wp_region_any hm (wpAny_chain h hp he hN (fun a' w' hs' => hk _ _ _ _ hq hs') ops.size _ a _ (by simp) (by simp [List.countP_replicate]) (fun j o _ hj => ?_) ?_)
  · simp [Array.getD_eq_getD_getElem?, Array.getElem?_replicate] at hj
    split at hj <;> simp at hj
  · obtain ⟨τ, hs⟩ := hs
    have : after (fun j => (Array.replicate ops.size false).getD j false) 0 es σ = σ := by
      have h0 : ∀ (es : List Ent) (k : Nat), after (fun j => (Array.replicate ops.size false).getD j false) k es σ = σ := by
        intro es
        induction es with
        | nil => intro k; rfl
        | cons e es ih =>
          intro k
          have : (Array.replicate ops.size false).getD k false = false := by
            simp only [Array.getD_eq_getD_getElem?, Array.getElem?_replicate]
            split <;> rfl
          rw [after, this]
          exact ih (k + 1)
      exact h0 es 0
    rw [this]
    exact ⟨τ, hs.drew _ (Nat.le_succ _)⟩

/-- Another state that stands for no less. -/
theorem aw_sub {c : Code} (h : ∀ E a w, E.N = N → Sim E σ a w → Sim E σ' a w) (hn : AW P N c σ' Q) : AW P N c σ Q := fun E hN R a w hs hk => hn E hN R a w (h E a w hN hs) hk
theorem al_sub {c : Code} {n : Nat} (h : ∀ E a w, E.N = N → Sim E σ a w → Sim E σ' a w) (hn : AL P N c n σ' Q) : AL P N c n σ Q := fun E hN R a w hs hk => hn E hN R a w (h E a w hN hs) hk
theorem aw_mono {c : Code} {Q' : Exit → St → Prop} (h : AW P N c σ Q) (hq : ∀ ex σ, Q ex σ → Q' ex σ) : AW P N c σ Q' := fun E hN R a w hs hk => h E hN R a w hs fun ex σ' a' w' h' hs' => hk ex σ' a' w' (hq _ _ h') hs'
end

/-! ### Contracts -/
def RepMs (w : World) (S : Nat → Prop) (τ : Tie) (ms : List M) (vs : List Value) : Prop := ms.length = vs.length ∧ ∀ (j : Nat) (m : M), ms[j]? = some m → ∃ u, vs[j]? = some u ∧ RepM w S τ m u

def tmpsAt : Nat → List M → St
  | _, [] => []
  | k, m :: r => (.tmp k, .m m) :: tmpsAt (k + 1) r

/-- f is a function of the program's that has a body. -/
def FnOk (P : Program) (f : FuncId) : Prop := ∀ (args : Array Value) (w : World), (callFunc f args).run P w = .ok (.enter f args) w

/-- f, handed 'ins' (and the objects 'pre'), hands back 'out'; the objects are 'post' then. Names from 1000000 on are those of 'pre', from 2000000 on those that are new in 'post'. -/
def ACalls (P : Program) (f : FuncId) (ins : List M) (pre : St) (out : M) (post : St) : Prop :=
  FnOk P f ∧ ∀ (w : World) (S0 O : Nat → Prop) (τ : Tie) (vals : List Value), SimAt ⟨w, 0, S0, O, τ⟩ τ pre ⟨#[], []⟩ w → RepMs w (Env.S ⟨w, 0, S0, O, τ⟩ τ) τ ins vals →
    Calls P f vals.toArray w fun e w' => ∃ v τ', e = .returned v ∧ SimAt ⟨w, 0, S0, O, τ⟩ τ' post ⟨#[], []⟩ w' ∧ RepM w' (Env.S ⟨w, 0, S0, O, τ⟩ τ') τ' out v ∧
      ∀ n k, τ'.ρ n = some k → 2000000 ≤ n ∨ τ.ρ n = some k

/-! ### Renaming -/
def C.map (r : Nat → Nat) : C → C
  | .t x => .t x
  | .row n => .row (r n)
  | .ptr n off => .ptr (r n) off
  | .eptr n sz i j => .eptr (r n) sz i j
  | .tptr cs off => .tptr cs off
  | .fn f caps => .fn f (caps.map r)
  | .tight es => .tight es
  | .seg n sz i m => .seg (r n) sz i m
def mapB (r : Nat → Nat) (b : Bool × List C) : Bool × List C := (b.1, b.2.map (C.map r))
def M.map (r : Nat → Nat) : M → M
  | .one c => .one (c.map r)
  | .agg cs => .agg (cs.map (C.map r))
  | .tup ms => .tup (ms.map (mapB r))
def Val.map (r : Nat → Nat) : Val → Val
  | .m x => .m (x.map r)
  | .c x => .c (x.map r)
  | .r e sz es => .r e sz es
  | .o x => .o x
  | .gone => .gone
def Loc.map (r : Nat → Nat) : Loc → Loc
  | .tmp t => .tmp t
  | .cell n j => .cell (r n) j
  | .row n => .row (r n)
  | .obj n => .obj (r n)

/-- τ' speaks of n as τ of r n. -/
def Tie.via (τ τ' : Tie) (r : Nat → Nat) (n : Nat) : Prop := τ'.β n = τ.β (r n) ∧ τ'.ν n = τ.ν (r n) ∧ τ'.κ n = τ.κ (r n) ∧ τ'.ρ n = τ.ρ (r n)

section
variable {w : World} {S : Nat → Prop} {τ τ' : Tie} {r : Nat → Nat}

theorem RepC.map {c : C} {v : Value} (hn : ∀ n ∈ c.names, τ.via τ' r n) (h : RepC w S τ (c.map r) v) : RepC w S τ' c v := by
  cases c with
  | t x => exact h
  | row n => exact ⟨by rw [(hn n (by simp [C.names])).2.1]; exact h.1, h.2⟩
  | ptr n off => simp only [RepC, C.map] at h ⊢; rw [(hn n (by simp [C.names])).1]; exact h
  | eptr n sz i j => simp only [RepC, C.map] at h ⊢; rw [(hn n (by simp [C.names])).2.1]; exact h
  | tptr cs off => exact h
  | fn f caps =>
    simp only [RepC, C.map, List.map_map] at h ⊢
    rw [h]
    congr 2
    refine List.map_congr_left fun n hm => ?_
    simp only [Function.comp_apply]
    rw [(hn n hm).1]
  | tight es => exact h
  | seg n sz i m => simp only [RepC, C.map] at h ⊢; rw [(hn n (by simp [C.names])).2.1]; exact h
theorem RepC.map' {c : C} {v : Value} (hn : ∀ n ∈ c.names, τ.via τ' r n) (h : RepC w S τ' c v) : RepC w S τ (c.map r) v := by
  cases c with
  | t x => exact h
  | row n => exact ⟨by rw [← (hn n (by simp [C.names])).2.1]; exact h.1, h.2⟩
  | ptr n off => simp only [RepC, C.map] at h ⊢; rw [← (hn n (by simp [C.names])).1]; exact h
  | eptr n sz i j => simp only [RepC, C.map] at h ⊢; rw [← (hn n (by simp [C.names])).2.1]; exact h
  | tptr cs off => exact h
  | fn f caps =>
    simp only [RepC, C.map, List.map_map] at h ⊢
    rw [h]
    congr 2
    refine List.map_congr_left fun n hm => ?_
    simp only [Function.comp_apply]
    rw [(hn n hm).1]
  | tight es => exact h
  | seg n sz i m => simp only [RepC, C.map] at h ⊢; rw [← (hn n (by simp [C.names])).2.1]; exact h
theorem RepCs.map {cs : List C} {vs : List Value} (hn : ∀ n ∈ cs.flatMap C.names, τ.via τ' r n) (h : RepCs w S τ (cs.map (C.map r)) vs) : RepCs w S τ' cs vs :=
  ⟨by simpa using h.1, fun j c hj => by
    obtain ⟨u, hu, hr⟩ := h.2 j (c.map r) (by rw [List.getElem?_map, hj]; rfl)
    exact ⟨u, hu, hr.map fun n hm => hn n (List.mem_flatMap.2 ⟨c, List.mem_of_getElem? hj, hm⟩)⟩⟩
theorem RepCs.map' {cs : List C} {vs : List Value} (hn : ∀ n ∈ cs.flatMap C.names, τ.via τ' r n) (h : RepCs w S τ' cs vs) : RepCs w S τ (cs.map (C.map r)) vs :=
  ⟨by simpa using h.1, fun j c hj => by
    rw [List.getElem?_map] at hj
    cases hc : cs[j]? with
    | none => rw [hc] at hj; simp at hj
    | some c0 =>
      rw [hc] at hj
      simp only [Option.map_some, Option.some.injEq] at hj
      subst hj
      obtain ⟨u, hu, hr⟩ := h.2 j c0 hc
      exact ⟨u, hu, hr.map' fun n hm => hn n (List.mem_flatMap.2 ⟨c0, List.mem_of_getElem? hc, hm⟩)⟩⟩
theorem RepB.map {b : Bool × List C} {v : Value} (hn : ∀ n ∈ b.2.flatMap C.names, τ.via τ' r n) (h : RepB w S τ (mapB r b) v) : RepB w S τ' b v := by
  obtain ⟨k, cs⟩ := b
  cases k with
  | false =>
    obtain ⟨c, hc, hr⟩ := h
    obtain ⟨c0, rfl⟩ : ∃ c0, cs = [c0] := List.length_eq_one_iff.1 (by have := congrArg List.length hc; simpa using this)
    simp only [List.map_cons, List.map_nil, List.cons.injEq, and_true] at hc
    subst hc
    exact ⟨c0, rfl, hr.map fun n hm => hn n (by simpa using hm)⟩
  | true =>
    obtain ⟨vs, e, hr⟩ := h
    exact ⟨vs, e, hr.map hn⟩
theorem RepM.map {x : M} {v : Value} (hn : ∀ n ∈ x.names, τ.via τ' r n) (h : RepM w S τ (x.map r) v) : RepM w S τ' x v := by
  cases x with
  | one c => exact RepC.map hn h
  | agg cs =>
    obtain ⟨vs, e, hr⟩ := h
    exact ⟨vs, e, hr.map hn⟩
  | tup ms =>
    obtain ⟨vs, e, hl, hr⟩ := h
    refine ⟨vs, e, by simpa using hl, fun j b hj => ?_⟩
    obtain ⟨u, hu, hb⟩ := hr j (mapB r b) (by rw [List.getElem?_map, hj]; rfl)
    exact ⟨u, hu, hb.map fun n hm => hn n (List.mem_flatMap.2 ⟨b, List.mem_of_getElem? hj, hm⟩)⟩
theorem RepM.map' {x : M} {v : Value} (hm : ∀ ms, x ≠ .tup ms) (hn : ∀ n ∈ x.names, τ.via τ' r n) (h : RepM w S τ' x v) : RepM w S τ (x.map r) v := by
  cases x with
  | one c => exact RepC.map' hn h
  | agg cs =>
    obtain ⟨vs, e, hr⟩ := h
    exact ⟨vs, e, hr.map' hn⟩
  | tup ms => exact absurd rfl (hm ms)
/-- A place of the heap, renamed. -/
theorem Holds.map {a a' : Act} {l : Loc} {x : Val} (hl : ∀ t, l ≠ .tmp t) (hln : ∀ n ∈ l.names, τ.via τ' r n) (hn : ∀ n ∈ x.names, τ.via τ' r n) (h : Holds w S τ a (l.map r) (x.map r)) : Holds w S τ' a' l x := by
  cases l with
  | tmp t => exact absurd rfl (hl t)
  | cell n j =>
    cases x with
    | gone => exact trivial
    | c x =>
      obtain ⟨h1, h2, h3, u, h4, h5⟩ := h
      obtain ⟨v1, v2, v3, v4⟩ := hln n (by simp [Loc.names])
      refine ⟨by rw [v3]; exact h1, by rw [v4, v1]; exact h2, by rw [v1]; exact h3, u, by rw [v1]; exact h4, h5.map hn⟩
    | m x => exact h
    | r _ _ _ => exact h
    | o x => exact h
  | obj n =>
    cases x with
    | gone => exact trivial
    | o x =>
      obtain ⟨h1, h2, o, h3, h4⟩ := h
      obtain ⟨v1, v2, v3, v4⟩ := hln n (by simp [Loc.names])
      exact ⟨by rw [v3]; exact h1, by rw [v4, v1]; exact h2, o, by rw [v1]; exact h3, h4⟩
    | m x => exact h
    | c x => exact h
    | r _ _ _ => exact h
  | row n =>
    cases x with
    | gone => exact trivial
    | r e sz es =>
      obtain ⟨h1, h2, h3⟩ := h
      obtain ⟨v1, v2, v3, v4⟩ := hln n (by simp [Loc.names])
      exact ⟨by rw [v3]; exact h1, by rw [v2, v4]; exact h2, by rw [v2]; exact h3⟩
    | m x => exact h
    | c x => exact h
    | o x => exact h
end

/-! ### A function's results -/
inductive FinR (P : Program) (σ : St) : List ResultVar → List (Bool × List C) → Prop
  | nil : FinR P σ [] []
  | tmp {t : Nat} {c : C} {rs : List ResultVar} {os : List (Bool × List C)} (h : look σ (.tmp t) = .m (.one c)) (hn : FinR P σ rs os) : FinR P σ (.tmp t :: rs) ((false, [c]) :: os)
  | tmpAgg {t : Nat} {cs : List C} {rs : List ResultVar} {os : List (Bool × List C)} (h : look σ (.tmp t) = .m (.agg cs)) (hn : FinR P σ rs os) : FinR P σ (.tmp t :: rs) ((true, cs) :: os)
  | cellAgg {a t n off : Nat} {cs : List C} {i : TypeInfo} {rs : List ResultVar} {os : List (Bool × List C)} (h : look σ (.tmp a) = .m (.one (.ptr n off))) (hag : ∀ w, (isAgg t).run P w = .ok true w) (hi : P.info? t = some i) (hl : cs.length = i.size) (hc : agree σ (cellsAt n off cs)) (hn : FinR P σ rs os) : FinR P σ (.cell a t :: rs) ((true, cs) :: os)
  | cell1 {a t n off : Nat} {c : C} {rs : List ResultVar} {os : List (Bool × List C)} (h : look σ (.tmp a) = .m (.one (.ptr n off))) (hag : ∀ w, (isAgg t).run P w = .ok false w) (hc : look σ (.cell n off) = .c c) (hn : FinR P σ rs os) : FinR P σ (.cell a t :: rs) ((false, [c]) :: os)

def outOf : List (Bool × List C) → M
  | [(false, [c])] => .one c
  | [(true, cs)] => .agg cs
  | os => .tup os

def resOf (tmps : Array Value) : ResultVar → Sem Value
  | .tmp t => pure (tmps.getD t undef)
  | .cell a t => do loadVar t (← asAddr (tmps.getD a undef))

theorem FinR.run {P : Program} {σ : St} {rs : List ResultVar} {os : List (Bool × List C)} (h : FinR P σ rs os) {E : Env} {τ : Tie} {a : Act} {w : World} (hs : SimAt E τ σ a w) :
    ∃ vs : List Value, (rs.mapM (resOf a.tmps)).run P w = .ok vs w ∧ vs.length = os.length ∧ ∀ (j : Nat) (b : Bool × List C), os[j]? = some b → ∃ u, vs[j]? = some u ∧ RepB w (E.S τ) τ b u := by
  induction h with
  | nil => exact ⟨[], rfl, rfl, fun j b h => by simp at h⟩
  | tmp h _ ih =>
    obtain ⟨vs, h1, h2, h3⟩ := ih
    rename_i t c _ _ _
    have hv := hs.get (.tmp t)
    rw [h] at hv
    refine ⟨a.tmps.getD t undef :: vs, by simp [List.mapM_cons, resOf, h1], by simp [h2], fun j b hj => ?_⟩
    cases j with
    | zero => simp only [List.getElem?_cons_zero, Option.some.injEq] at hj; subst hj; exact ⟨_, rfl, c, rfl, hv⟩
    | succ j => exact h3 j b (by simpa using hj)
  | tmpAgg h _ ih =>
    obtain ⟨vs, h1, h2, h3⟩ := ih
    rename_i t cs _ _ _
    have hv := hs.get (.tmp t)
    rw [h] at hv
    refine ⟨a.tmps.getD t undef :: vs, by simp [List.mapM_cons, resOf, h1], by simp [h2], fun j b hj => ?_⟩
    cases j with
    | zero => simp only [List.getElem?_cons_zero, Option.some.injEq] at hj; subst hj; exact ⟨_, rfl, hv⟩
    | succ j => exact h3 j b (by simpa using hj)
  | cellAgg h hag hi hl hc _ ih =>
    obtain ⟨vs, h1, h2, h3⟩ := ih
    rename_i x t n off cs i _ _ _
    have hv := hs.get (.tmp x)
    rw [h] at hv
    have hv' : a.tmps.getD x undef = .pointer (some ⟨τ.β n, off, none⟩) := hv
    have hadd : ∀ j, (⟨τ.β n, off, none⟩ : Addr).add j = ⟨τ.β n, off + j, none⟩ := fun j => by unfold Addr.add; split <;> simp_all
    obtain ⟨us, hul, huc, hur⟩ := cells_choose (w := w) (ad := ⟨τ.β n, off, none⟩) (R := RepC w (E.S τ) τ) cs (fun j c hj => by
      have hc' := hs.get (.cell n (off + j))
      rw [agree_cellsAt hc j c hj] at hc'
      obtain ⟨_, _, _, u, hu, hrep⟩ := hc'
      exact ⟨u, by rw [hadd]; exact hu, hrep⟩)
    have hload := run_loadN (P := P) (w := w) (t := t) (ad := ⟨τ.β n, off, none⟩) hag hi (hul.trans hl) huc
    simp only [Instr.loadAt, Instr.sureAddr, Sem.run_bind, Sem.run_pure, Result.andThen_ok] at hload
    refine ⟨.agg us.toArray :: vs, by simp [List.mapM_cons, resOf, hv', asAddr, hload, h1], by simp [h2], fun j b hj => ?_⟩
    cases j with
    | zero => simp only [List.getElem?_cons_zero, Option.some.injEq] at hj; subst hj; exact ⟨_, rfl, us.toArray, rfl, hul.symm, hur⟩
    | succ j => exact h3 j b (by simpa using hj)
  | cell1 h hag hc _ ih =>
    obtain ⟨vs, h1, h2, h3⟩ := ih
    rename_i x t n off c _ _ _
    have hv := hs.get (.tmp x)
    rw [h] at hv
    have hv' : a.tmps.getD x undef = .pointer (some ⟨τ.β n, off, none⟩) := hv
    have hc' := hs.get (.cell n off)
    rw [hc] at hc'
    obtain ⟨_, _, _, u, hu, hrep⟩ := hc'
    have hload := run_load1 (P := P) (w := w) (t := t) (ad := ⟨τ.β n, off, none⟩) hag hu
    simp only [Instr.loadAt, Instr.sureAddr, Sem.run_bind, Sem.run_pure, Result.andThen_ok] at hload
    refine ⟨u :: vs, by simp [List.mapM_cons, resOf, hv', asAddr, hload, h1], by simp [h2], fun j b hj => ?_⟩
    cases j with
    | zero => simp only [List.getElem?_cons_zero, Option.some.injEq] at hj; subst hj; exact ⟨_, rfl, c, rfl, hrep⟩
    | succ j => exact h3 j b (by simpa using hj)

theorem FinR.results {P : Program} {σ : St} {fn : Func} {os : List (Bool × List C)} (h : FinR P σ fn.results.toList os) {E : Env} {τ : Tie} {a : Act} {w : World} (hs : SimAt E τ σ a w) :
    ∃ v, (Go.results fn a.tmps).run P w = .ok v w ∧ RepM w (E.S τ) τ (outOf os) v := by
  obtain ⟨vs, h1, h2, h3⟩ := h.run hs
  have hrun : (Go.results fn a.tmps).run P w = .ok (if h : vs.toArray.size = 1 then vs.toArray[0] else .tuple vs.toArray) w := by
    have hdef : Go.results fn a.tmps = (do let vs ← fn.results.mapM (resOf a.tmps); pure (if h : vs.size = 1 then vs[0] else .tuple vs)) := by
      unfold Go.results
      congr 1
    rw [hdef, Array.mapM_eq_mapM_toList]
    simp [h1]
  refine ⟨_, hrun, ?_⟩
  rcases os with _ | ⟨b, _ | ⟨b2, r⟩⟩
  · obtain rfl : vs = [] := List.eq_nil_of_length_eq_zero h2
    exact ⟨#[], rfl, rfl, fun j b h => by simp at h⟩
  · obtain ⟨v, rfl⟩ := List.length_eq_one_iff.1 (show vs.length = 1 from h2)
    obtain ⟨u, hu, hb⟩ := h3 0 b rfl
    simp only [List.getElem?_cons_zero, Option.some.injEq] at hu
    subst hu
    simp only [List.size_toArray, List.length_cons, List.length_nil, Nat.zero_add, dite_true, List.getElem_toArray, List.getElem_cons_zero]
    obtain ⟨k, cs⟩ := b
    cases k with
    | false => obtain ⟨c, rfl, hc⟩ := hb; exact hc
    | true => exact hb
  · have hne : ¬ vs.toArray.size = 1 := by simp [h2]
    rw [dif_neg hne]
    have hout : outOf (b :: b2 :: r) = .tup (b :: b2 :: r) := by
      unfold outOf
      split <;> simp_all
    rw [hout]
    exact ⟨vs.toArray, rfl, by simp [h2], fun j b hj => by simpa using h3 j b hj⟩
end Go.PM
