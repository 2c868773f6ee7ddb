/- A part of a layer between the model's runs and plain values: steps of code simulate plain functions; no program is named here. -/
import Derived.Test.YtidgbllladaahaaPmL
set_option linter.all false
namespace Go.PM
open Go Go.RowKit

/-! ### From state to state, nothing being done -/
def Goes (σ σ' : St) : Prop := ∀ (E : Env) (a : Act) (w : World), Sim E σ a w → Sim E σ' a w
theorem Goes.refl {σ : St} : Goes σ σ := fun _ _ _ h => h
theorem Goes.trans {a b c : St} (h : Goes a b) (k : Goes b c) : Goes a c := fun E x w hs => k E x w (h E x w hs)
theorem Goes.into {σ σ' : St} (ps : List (Nat × Nat)) (h : Into σ ps σ') : Goes σ σ' := fun _ _ _ hs => hs.ren ps h.1 h.2.1 h.2.2
theorem Goes.freezeRow {σ : St} {n e sz : Nat} {es : List (List T)} (hn : look σ (.row n) = .r e sz es) : Goes σ (PM.freezeRow n es σ) := fun _ _ _ hs => hs.freezeRow hn
theorem Goes.freezeBox {σ : St} {n : Nat} {cs : List T} (hn : agree σ (cellsAt n 0 (cs.map .t))) : Goes σ (PM.freezeBox n cs σ) := fun _ _ _ hs => hs.freezeBox hn
theorem Goes.nilRow {σ : St} {t n : Nat} (e sz : Nat) (hlim : n < 1000000) (hn : fresh n σ = true) (h0 : 0 < sz) (hl : look σ (.tmp t) = .m (.one (.t (.v (.slice none 0 0))))) : Goes σ ((.tmp t, .m (.one (.row n))) :: (.row n, .r e sz []) :: σ) := fun _ _ _ hs => hs.nilRow hlim (.of_bool hn) h0 hl (.inl ⟨rfl, rfl⟩)
theorem Goes.nilRowC {σ : St} {b j n : Nat} (e sz : Nat) (hlim : n < 1000000) (hn : fresh n σ = true) (h0 : 0 < sz) (hl : look σ (.cell b j) = .c (.t (.v (.slice none 0 0)))) : Goes σ ((.cell b j, .c (.row n)) :: (.row n, .r e sz []) :: σ) := fun _ _ _ hs => hs.nilRow hlim (.of_bool hn) h0 hl (.inr ⟨rfl, rfl⟩)

section
variable {P : Program} {N : Nat} {c : Code} {σ : St} {Q : Exit → St → Prop} {V W J R : Type}
theorem aw_goes {σ' : St} (h : Goes σ σ') (hn : AW P N c σ' Q) : AW P N c σ Q := aw_sub (fun E a w _ hs => h E a w hs) hn
theorem aw_post' {Q' : Exit → St → Prop} (h : AW P N c σ Q') (hq : ∀ ex σ1, Q' ex σ1 → ∃ σ2, Goes σ1 σ2 ∧ Q ex σ2) : AW P N c σ Q := fun E hN R a w hs hk => h E hN R a w hs fun ex σ' a' w' h' hs' => by
  obtain ⟨σ2, h1, h2⟩ := hq _ _ h'
  exact hk ex σ2 a' w' h2 (h1 E a' w' hs')

/-! ### Ways that meet -/
def CutQ0 (s : V) (st : V → St) : Exit → St → Prop
  | .normal, σ' => Goes σ' (st s)
  | _, _ => False
def CutQ (s : V ⊕ J) (st : V → St) (H : J → Option R) (r : R) (Q : Exit → St → Prop) : Exit → St → Prop
  | .normal, σ' => ∃ y, s = .inl y ∧ Goes σ' (st y)
  | ex, σ' => ∃ j, s = .inr j ∧ (H j = some r → Q ex σ')
theorem aw_cut0 {X : Option V} {G : V → Option R} {r : R} (st : V → St) (h : X.bind G = some r) (h1 : ∀ s, X = some s → AW P N c σ (CutQ0 s st)) (h2 : ∀ y, G y = some r → Q .normal (st y)) : AW P N c σ Q := by
  obtain ⟨s, hs, h⟩ := bind_some h
  refine aw_post' (h1 s hs) fun ex σ1 hq => ?_
  cases ex with
  | normal => exact ⟨_, hq, h2 s h⟩
  | _ => exact hq.elim
theorem aw_cut {X : Option (V ⊕ J)} {G : V → Option R} {H : J → Option R} {r : R} (st : V → St) (h : (X.bind fun s => s.elim G H) = some r) (h1 : ∀ s, X = some s → AW P N c σ (CutQ s st H r Q)) (h2 : ∀ y, G y = some r → Q .normal (st y)) : AW P N c σ Q := by
  obtain ⟨s, hs, h⟩ := bind_some h
  refine aw_post' (h1 s hs) fun ex σ1 hq => ?_
  cases ex with
  | normal =>
    obtain ⟨y, rfl, hg⟩ := hq
    exact ⟨_, hg, h2 y h⟩
  | _ =>
    obtain ⟨j, rfl, hg⟩ := hq
    exact ⟨_, .refl, hg h⟩

/-! ### Loops -/
def LoopQ0 (id : Nat) (s : V ⊕ W) (st : V → St) (st' : W → St) : Exit → St → Prop
  | .normal, σ' => ∃ y, s = .inl y ∧ Goes σ' (st y)
  | .exit i, σ' => Nat.beq i id = true ∧ ∃ y, s = .inr y ∧ Goes σ' (st' y)
  | _, _ => False
def LoopQ (id : Nat) (s : V ⊕ (W ⊕ J)) (st : V → St) (st' : W → St) (H : J → Option R) (r : R) (Q : Exit → St → Prop) : Exit → St → Prop
  | .normal, σ' => ∃ y, s = .inl y ∧ Goes σ' (st y)
  | .exit i, σ' => bif Nat.beq i id then ∃ y, s = .inr (.inl y) ∧ Goes σ' (st' y) else ∃ j, s = .inr (.inr j) ∧ (H j = some r → Q (.exit i) σ')
  | ex, σ' => ∃ j, s = .inr (.inr j) ∧ (H j = some r → Q ex σ')

def CutQ0L (id : Nat) (b : W) (st' : W → St) : Exit → St → Prop
  | .exit i, σ' => Nat.beq i id = true ∧ σ' = st' b
  | _, _ => False
theorem al_loop0 {body : V → Option (V ⊕ W)} {id : Nat} {st : V → St} {st' : W → St} (step : ∀ x s, body x = some s → AW P N c (st x) (LoopQ0 id s st st')) : ∀ (K : Nat) (x : V) (b : W), loopO body K x = some b → AL P N c K (st x) (CutQ0L id b st') := by
  intro K
  induction K with
  | zero => intro x b h; exact absurd h loop_zero
  | succ n ih =>
    intro x b h
    refine al_succ ?_
    rcases loop_succ h with ⟨y, h1, h2⟩ | h1
    · refine aw_post' (step x _ h1) fun ex σ1 hq => ?_
      cases ex with
      | normal =>
        obtain ⟨y', e, hg⟩ := hq
        injection e with e
        subst e
        exact ⟨_, hg, ih y b h2⟩
      | exit i =>
        obtain ⟨_, y', e, _⟩ := hq
        cases e
      | _ => exact hq.elim
    · refine aw_post' (step x _ h1) fun ex σ1 hq => ?_
      cases ex with
      | normal =>
        obtain ⟨y', e, hg⟩ := hq
        cases e
      | exit i =>
        obtain ⟨hi, y', e, hg⟩ := hq
        injection e with e
        subst e
        exact ⟨_, hg, hi, rfl⟩
      | _ => exact hq.elim
theorem aw_loop0 {body : V → Option (V ⊕ W)} {G : W → Option R} {r : R} {id K : Nat} {x0 : V} (st : V → St) (st' : W → St) (h : (loopO body K x0).bind G = some r) (hi : Goes σ (st x0)) (step : ∀ x s, body x = some s → AW P N c (st x) (LoopQ0 id s st st')) (h2 : ∀ y, G y = some r → Q .normal (st' y)) : AW P N (.block id (.loop c)) σ Q := by
  obtain ⟨b, hb, h⟩ := bind_some h
  refine aw_goes hi (aw_block (aw_loop K fun E hN R a w hs hk => al_loop0 step K x0 b hb E hN R a w hs fun ex σ' a' w' hq hs' => ?_))
  cases ex with
  | exit i =>
    obtain ⟨hi, rfl⟩ := hq
    refine hk _ _ _ _ ?_ hs'
    simp only [blockQ]
    rw [if_pos (Nat.eq_of_beq_eq_true hi)]
    exact h2 b h
  | _ => exact hq.elim

def CutQL (id : Nat) (b : W ⊕ J) (st' : W → St) (H : J → Option R) (r : R) (Q : Exit → St → Prop) : Exit → St → Prop
  | .normal, _ => False
  | .exit i, σ' => bif Nat.beq i id then ∃ y, b = .inl y ∧ σ' = st' y else ∃ j, b = .inr j ∧ (H j = some r → Q (.exit i) σ')
  | ex, σ' => ∃ j, b = .inr j ∧ (H j = some r → Q ex σ')
theorem al_loop {body : V → Option (V ⊕ (W ⊕ J))} {id : Nat} {st : V → St} {st' : W → St} {H : J → Option R} {r : R} (step : ∀ x s, body x = some s → AW P N c (st x) (LoopQ id s st st' H r Q)) : ∀ (K : Nat) (x : V) (b : W ⊕ J), loopO body K x = some b → AL P N c K (st x) (CutQL id b st' H r Q) := by
  intro K
  induction K with
  | zero => intro x b h; exact absurd h loop_zero
  | succ n ih =>
    intro x b h
    refine al_succ ?_
    rcases loop_succ h with ⟨y, h1, h2⟩ | h1
    · refine aw_post' (step x _ h1) fun ex σ1 hq => ?_
      cases ex with
      | normal =>
        obtain ⟨y', e, hg⟩ := hq
        injection e with e
        subst e
        exact ⟨_, hg, ih y b h2⟩
      | exit i =>
        simp only [LoopQ] at hq
        cases hb : Nat.beq i id <;> rw [hb] at hq <;> obtain ⟨y', e, _⟩ := hq <;> cases e
      | _ =>
        obtain ⟨y', e, _⟩ := hq
        cases e
    · refine aw_post' (step x _ h1) fun ex σ1 hq => ?_
      cases ex with
      | normal =>
        obtain ⟨y', e, hg⟩ := hq
        cases e
      | exit i =>
        simp only [LoopQ] at hq
        cases hb : Nat.beq i id with
        | true =>
          rw [hb] at hq
          obtain ⟨y', e, hg⟩ := hq
          injection e with e
          refine ⟨_, hg, ?_⟩
          show CutQL id b st' H r Q (.exit i) _
          simp only [CutQL, hb, cond_true]
          exact ⟨y', e, rfl⟩
        | false =>
          rw [hb] at hq
          obtain ⟨j, e, hg⟩ := hq
          injection e with e
          refine ⟨_, .refl, ?_⟩
          show CutQL id b st' H r Q (.exit i) _
          simp only [CutQL, hb, cond_false]
          exact ⟨j, e, hg⟩
      | _ =>
        obtain ⟨j, e, hg⟩ := hq
        injection e with e
        exact ⟨_, .refl, j, e, hg⟩
theorem aw_loopJ {body : V → Option (V ⊕ (W ⊕ J))} {G : W → Option R} {H : J → Option R} {r : R} {id K : Nat} {x0 : V} (st : V → St) (st' : W → St) (h : ((loopO body K x0).bind fun s => s.elim G H) = some r) (hi : Goes σ (st x0)) (step : ∀ x s, body x = some s → AW P N c (st x) (LoopQ id s st st' H r Q)) (h2 : ∀ y, G y = some r → Q .normal (st' y)) : AW P N (.block id (.loop c)) σ Q := by
  obtain ⟨b, hb, h⟩ := bind_some h
  refine aw_goes hi (aw_block (aw_loop K fun E hN R a w hs hk => al_loop step K x0 b hb E hN R a w hs fun ex σ' a' w' hq hs' => ?_))
  cases ex with
  | normal => exact hq.elim
  | exit i =>
    refine hk _ _ _ _ ?_ hs'
    simp only [CutQL] at hq
    simp only [blockQ]
    cases hbe : Nat.beq i id with
    | true =>
      rw [hbe] at hq
      obtain ⟨y, rfl, rfl⟩ := hq
      rw [if_pos (Nat.eq_of_beq_eq_true hbe)]
      exact h2 y h
    | false =>
      rw [hbe] at hq
      obtain ⟨j, rfl, hg⟩ := hq
      rw [if_neg (fun e => by rw [e] at hbe; simp at hbe)]
      exact hg h
  | _ =>
    obtain ⟨j, rfl, hg⟩ := hq
    exact hk _ _ _ _ (hg h) hs'
end
end Go.PM
namespace Go.PM
open Go
theorem info_of_run {P : Program} {t : TypeId} {i : TypeInfo} (h : ∀ w, (typeInfo t).run P w = .ok i w) : P.info? t = some i := by
  have h1 := h default
  cases hi : P.info? t with
  | none => simp [typeInfo, hi] at h1
  | some j => simp [typeInfo, hi] at h1; rw [h1]
end Go.PM
namespace Go.PM
open Go
section
variable {P : Program} {N : Nat} {o : Oper} {d : Nat} {s ft : TypeId} {x : Operand} {k fo : Nat} {fs : Array Field} {i : TypeInfo} {rx : List (Loc × Val)}
theorem field_of (hf : (fs[k]?).map (fun f => (f.type, f.offset)) = some (ft, fo)) : ∃ f, fs[k]? = some f ∧ f.type = ft ∧ f.offset = fo := by
  cases h : fs[k]? with
  | none => rw [h] at hf; simp at hf
  | some f =>
    rw [h] at hf
    simp only [Option.map_some, Option.some.injEq, Prod.mk.injEq] at hf
    exact ⟨f, rfl, hf.1, hf.2⟩
theorem k_fieldT (ft : TypeId) (fo : Nat) {cs : List T} {off : Nat} (ho : o.op = .fieldAddr s x k) (hd : o.dst = some d) (hN : d < N) (hs : P.underlying s = some (.struct fs)) (hf : (fs[k]?).map (fun f => (f.type, f.offset)) = some (ft, fo)) (hi : P.info? ft = some i) (h0 : i.size ≠ 0)
    (hx : EvR x (.one (.tptr cs off)) rx) : LCore P N o rx [(.tmp d, .m (.one (.tptr cs (off + fo))))] [] := by
  obtain ⟨f, h1, rfl, rfl⟩ := field_of hf
  exact c_fieldAddr (c := .tptr cs off) ho hd hN hs h1 hi h0 hx rfl
theorem k_fieldP (ft : TypeId) (fo : Nat) {n off : Nat} (ho : o.op = .fieldAddr s x k) (hd : o.dst = some d) (hN : d < N) (hs : P.underlying s = some (.struct fs)) (hf : (fs[k]?).map (fun f => (f.type, f.offset)) = some (ft, fo)) (hi : P.info? ft = some i) (h0 : i.size ≠ 0)
    (hx : EvR x (.one (.ptr n off)) rx) : LCore P N o rx [(.tmp d, .m (.one (.ptr n (off + fo))))] [] := by
  obtain ⟨f, h1, rfl, rfl⟩ := field_of hf
  exact c_fieldAddr (c := .ptr n off) ho hd hN hs h1 hi h0 hx rfl
theorem k_fieldE (ft : TypeId) (fo : Nat) {n sz e j : Nat} (ho : o.op = .fieldAddr s x k) (hd : o.dst = some d) (hN : d < N) (hs : P.underlying s = some (.struct fs)) (hf : (fs[k]?).map (fun f => (f.type, f.offset)) = some (ft, fo)) (hi : P.info? ft = some i) (h0 : i.size ≠ 0)
    (hx : EvR x (.one (.eptr n sz e j)) rx) : LCore P N o rx [(.tmp d, .m (.one (.eptr n sz e (j + fo))))] [] := by
  obtain ⟨f, h1, rfl, rfl⟩ := field_of hf
  exact c_fieldAddr (c := .eptr n sz e j) ho hd hN hs h1 hi h0 hx rfl
end
end Go.PM
namespace Go.PM
open Go
theorem EvElems.c1 {k : Nat} {x : Operand} {tr : T} {rx rd : List (Loc × Val)} {ps : List (Nat × Operand)} {es : List (List T)} (hx : EvR x (.one (.t tr)) rx) (h : EvElems (k + 1) ps es rd) : EvElems k ((k, x) :: ps) ([tr] :: es) (rx ++ rd) := .cons hx rfl (fun _ h => nomatch h) h
theorem EvElems.cN {k : Nat} {x : Operand} (ts : List T) {rx rd : List (Loc × Val)} {ps : List (Nat × Operand)} {es : List (List T)} (hx : EvR x (.agg (ts.map .t)) rx) (h : EvElems (k + 1) ps es rd) : EvElems k ((k, x) :: ps) (ts :: es) (rx ++ rd) := .cons hx rfl (fun _ h => nomatch h) h
theorem EvParts.c1 {i : Nat} {x : Operand} {c : C} {rx rd : List (Loc × Val)} {ps : List (Nat × Operand)} {qs : List (Nat × List C)} (hx : EvR x (.one c) rx) (h : EvParts ps qs rd) : EvParts ((i, x) :: ps) ((i, [c]) :: qs) (rx ++ rd) := .cons hx (fun _ h => nomatch h) h
theorem EvParts.cN {i : Nat} {x : Operand} {cs : List C} {rx rd : List (Loc × Val)} {ps : List (Nat × Operand)} {qs : List (Nat × List C)} (hx : EvR x (.agg cs) rx) (h : EvParts ps qs rd) : EvParts ((i, x) :: ps) ((i, cs) :: qs) (rx ++ rd) := .cons hx (fun _ h => nomatch h) h
section
variable {P : Program} {N : Nat} {o : Oper} {d : Nat} {e : TypeId} {x : Operand} {rx ry : List (Loc × Val)}
theorem k_box1 {c : C} (ho : o.op = .box e x) (hd : o.dst = some d) (hN : d < N) (hx : EvR x (.one c) rx) (hn : (([c] : List C).flatMap C.names).any (Nat.beq d) = false) : LCore P N o rx ((.tmp d, .m (.one (.ptr d 0))) :: cellsAt d 0 [c]) [d] := c_box ho hd hN hx (fun _ h => nomatch h) hn
theorem k_boxN {cs : List C} (ho : o.op = .box e x) (hd : o.dst = some d) (hN : d < N) (hx : EvR x (.agg cs) rx) (hn : (cs.flatMap C.names).any (Nat.beq d) = false) : LCore P N o rx ((.tmp d, .m (.one (.ptr d 0))) :: cellsAt d 0 cs) [d] := c_box ho hd hN hx (fun _ h => nomatch h) hn
theorem c_eqlB {t t2 : TypeId} {y : Operand} {a b : Bool} (ht : P.underlying t = some .bool) (ho : o.op = .binOp .eql t x y t2) (hd : o.dst = some d) (hN : d < N) (hx : EvR x (.one (.t (.v (.bool a)))) rx) (hy : EvR y (.one (.t (.v (.bool b)))) ry) : LCore P N o (rx ++ ry) [(.tmp d, .m (.one (.t (.v (.bool (a == b))))))] [] :=
  c_binop ho hd hN hx hy rfl fun w => by simp [eqGuard, binOp, run_equal_bool w t a b ht]
theorem c_neqB {t t2 : TypeId} {y : Operand} {a b : Bool} (ht : P.underlying t = some .bool) (ho : o.op = .binOp .neq t x y t2) (hd : o.dst = some d) (hN : d < N) (hx : EvR x (.one (.t (.v (.bool a)))) rx) (hy : EvR y (.one (.t (.v (.bool b)))) ry) : LCore P N o (rx ++ ry) [(.tmp d, .m (.one (.t (.v (.bool (!(a == b)))))))] [] :=
  c_binop ho hd hN hx hy rfl fun w => by simp [eqGuard, binOp, run_equal_bool w t a b ht]
end
end Go.PM
