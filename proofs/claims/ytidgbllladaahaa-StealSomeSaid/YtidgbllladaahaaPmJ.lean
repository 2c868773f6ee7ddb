/- A part of a layer between the model's runs and plain values: steps of code simulate plain functions; no program is named here. -/
import Derived.Test.YtidgbllladaahaaPmI
set_option linter.all false
namespace Go.PM
open Go Go.RowKit

/-! ### A name that is given up -/
def Tie.drop (τ : Tie) (n : Nat) : Tie := { τ with ρ := fun m => if m = n then none else τ.ρ m }
theorem Tie.drop_ρ {τ : Tie} {n m k : Nat} (h : (τ.drop n).ρ m = some k) : m ≠ n ∧ τ.ρ m = some k := by
  simp only [Tie.drop] at h
  by_cases e : m = n
  · rw [if_pos e] at h; cases h
  · rw [if_neg e] at h; exact ⟨e, h⟩
theorem Env.S_drop {E : Env} {τ : Tie} {n k : Nat} (h : E.S τ k) : E.S (τ.drop n) k := ⟨h.1, fun m hm => h.2 m (Tie.drop_ρ hm).2⟩

def killed (n : Nat) (l : Loc) : Bool := l.names.any (Nat.beq n)
/-- The state under f, but for what lies under n's name. -/
def mapSt (n : Nat) (f : Val → Val) (σ : St) : St := σ.map fun p => (p.1, bif killed n p.1 then .gone else f p.2)
theorem look_mapSt {n : Nat} {f : Val → Val} (hf : f .gone = .gone) (l : Loc) : ∀ σ : St, look (mapSt n f σ) l = bif killed n l then .gone else f (look σ l)
  | [] => by simp [mapSt, look, hf]
  | (k, x) :: r => by
    have ih := look_mapSt (n := n) hf l r
    simp only [mapSt, List.map_cons] at ih ⊢
    rw [look_cons, look_cons]
    by_cases e : k = l
    · subst e; simp
    · rw [if_neg e, if_neg e]; exact ih

theorem SimAt.unname {E : Env} {τ : Tie} {σ : St} {a : Act} {w : World} (h : SimAt E τ σ a w) (n : Nat) {f : Val → Val} (hf : f .gone = .gone)
    (hh : ∀ l x, killed n l = false → Holds w (E.S (τ.drop n)) (τ.drop n) a l x → Holds w (E.S (τ.drop n)) (τ.drop n) a l (f x)) : SimAt E (τ.drop n) (mapSt n f σ) a w := by
  refine h.move rfl rfl ⟨rfl, Nat.le_refl _⟩ (Nat.le_refl _) (fun _ _ _ => rfl) (fun m m' k h1 h2 => h.inj m m' k (Tie.drop_ρ h1).2 (Tie.drop_ρ h2).2) (fun m k h1 => (h.acc m k (Tie.drop_ρ h1).2).1) (fun m k h1 _ => ⟨m, (Tie.drop_ρ h1).2⟩) (fun m _ _ => ⟨rfl, rfl, rfl, fun k hk => (Tie.drop_ρ hk).2⟩) ?_
  intro hs l
  rw [look_mapSt hf]
  cases hk : killed n l with
  | true => cases l <;> exact trivial
  | false =>
    refine hh l _ hk ((h.get l).step hs (fun _ _ => ⟨rfl, rfl⟩) (fun m hm => ?_))
    have hne : m ≠ n := by
      rintro rfl
      have : killed m l = true := List.any_eq_true.2 ⟨m, hm, by simp⟩
      rw [hk] at this
      cases this
    exact ⟨rfl, rfl, rfl, by simp [Tie.drop, hne], fun _ _ => rfl⟩

theorem Sim.congr' {E : Env} {σ σ' : St} {a : Act} {w : World} (h : Sim E σ a w) (he : ∀ l, look σ' l = .gone ∨ look σ' l = look σ l) : Sim E σ' a w := by
  obtain ⟨τ, h⟩ := h
  exact ⟨τ, h.less he⟩

/-! ### Freezing -/
/-- What a cell says when n is known as x. -/
def C.as (g : C → C) : M → M
  | .one c => .one (g c)
  | .agg cs => .agg (cs.map g)
  | .tup ms => .tup (ms.map fun b => (b.1, b.2.map g))
def Val.as (g : C → C) : Val → Val
  | .m x => .m (C.as g x)
  | .c x => .c (g x)
  | .r e sz es => .r e sz es
  | .o x => .o x
  | .gone => .gone
theorem Holds.as {w : World} {S : Nat → Prop} {τ : Tie} {a : Act} {g : C → C} (hg : ∀ c v, RepC w S τ c v → RepC w S τ (g c) v) {l : Loc} {x : Val} (h : Holds w S τ a l x) : Holds w S τ a l (x.as g) := by
  have hcs : ∀ (cs : List C) (vs : List Value), RepCs w S τ cs vs → RepCs w S τ (cs.map g) vs := fun cs vs h => ⟨by simpa using h.1, fun j c hj => by
    rw [List.getElem?_map] at hj
    cases hc : cs[j]? with
    | none => rw [hc] at hj; simp at hj
    | some c0 =>
      rw [hc] at hj
      simp only [Option.map_some, Option.some.injEq] at hj
      subst hj
      obtain ⟨u, hu, hr⟩ := h.2 j c0 hc
      exact ⟨u, hu, hg _ _ hr⟩⟩
  cases x with
  | gone => cases l <;> exact trivial
  | r _ _ _ => exact h
  | o _ => exact h
  | c x => cases l with
    | cell n j =>
      obtain ⟨q1, q2, q3, u, q4, q5⟩ := h
      exact ⟨q1, q2, q3, u, q4, hg _ _ q5⟩
    | _ => exact h
  | m x => cases l with
    | tmp t =>
      show RepM w S τ (C.as g x) _
      have h' : RepM w S τ x (a.tmps.getD t undef) := h
      cases x with
      | one c => exact hg _ _ h'
      | agg cs =>
        obtain ⟨vs, e, hr⟩ := h'
        exact ⟨vs, e, hcs _ _ hr⟩
      | tup ms =>
        obtain ⟨vs, e, hl, hr⟩ := h'
        refine ⟨vs, e, by simpa using hl, fun j b hj => ?_⟩
        rw [List.getElem?_map] at hj
        cases hb : ms[j]? with
        | none => rw [hb] at hj; simp at hj
        | some b0 =>
          rw [hb] at hj
          simp only [Option.map_some, Option.some.injEq] at hj
          subst hj
          obtain ⟨u, hu, hrb⟩ := hr j b0 hb
          refine ⟨u, hu, ?_⟩
          obtain ⟨k, cs⟩ := b0
          cases k with
          | false =>
            obtain ⟨c, rfl, hc⟩ := hrb
            exact ⟨g c, rfl, hg _ _ hc⟩
          | true =>
            obtain ⟨us, e', hc⟩ := hrb
            exact ⟨us, e', hcs _ _ hc⟩
    | _ => exact h

def fzRow (n : Nat) (es : List (List T)) : C → C
  | .row m => bif Nat.beq n m then .t (.sl es) else .row m
  | c => c
def fzBox (n : Nat) (cs : List T) : C → C
  | .ptr m off => bif Nat.beq n m then .tptr cs off else .ptr m off
  | c => c

/-- A row that is written no more. -/
def freezeRow (n : Nat) (es : List (List T)) (σ : St) : St := mapSt n (Val.as (fzRow n es)) σ
/-- A box that is written no more. -/
def freezeBox (n : Nat) (cs : List T) (σ : St) : St := mapSt n (Val.as (fzBox n cs)) σ

theorem Sim.freezeRow {E : Env} {σ : St} {a : Act} {w : World} (h : Sim E σ a w) {n e sz : Nat} {es : List (List T)} (hn : look σ (.row n) = .r e sz es) : Sim E (PM.freezeRow n es σ) a w := by
  obtain ⟨τ, h⟩ := h
  have hr := h.get (.row n)
  rw [hn] at hr
  obtain ⟨hκ, hb, hrow⟩ := hr
  have h2 : RepT w (E.S (τ.drop n)) (.sl es) (τ.ν n) := by
    have h2 : RowOk w (E.S (τ.drop n)) (τ.ν n) e sz es := hrow.step (fun k _ hk => ⟨Env.S_drop hk, rfl⟩) (fun _ _ => rfl)
    refine h2.toT fun k hk => ⟨?_, fun m hm => ?_⟩
    · rw [hb] at hk
      rcases (h.acc n k hk).2 with h3 | h3
      · exact .inr (.inr h3)
      · exact .inr (.inl h3)
    · obtain ⟨h3, h4⟩ := Tie.drop_ρ hm
      rw [hb] at hk
      exact h3 (h.inj m n k h4 hk)
  refine ⟨τ.drop n, h.unname n rfl fun l x _ hx => Holds.as (fun c v hc => ?_) hx⟩
  cases c with
  | row m =>
    simp only [fzRow]
    by_cases e : n = m
    · subst e
      have : Nat.beq n n = true := by simp
      rw [this]
      have hv : v = τ.ν n := hc.1
      rw [hv]
      exact h2
    · have : Nat.beq n m = false := by
        rw [Bool.eq_false_iff]
        exact fun h => e (Nat.eq_of_beq_eq_true h)
      rw [this]
      exact hc
  | _ => exact hc

theorem Sim.freezeBox {E : Env} {σ : St} {a : Act} {w : World} (h : Sim E σ a w) {n : Nat} {cs : List T} (hn : agree σ (cellsAt n 0 (cs.map .t))) : Sim E (PM.freezeBox n cs σ) a w := by
  obtain ⟨τ, h⟩ := h
  have hc : ∀ (j : Nat) (t : T), cs[j]? = some t → τ.κ n = false ∧ τ.ρ n = some (τ.β n) ∧ ∃ u, w.cell? ⟨τ.β n, j, none⟩ = some u ∧ RepT w (E.S τ) t u := fun j t ht => by
    have h1 := h.get (.cell n j)
    have h2 := agree_cellsAt hn j (.t t) (by rw [List.getElem?_map, ht]; rfl)
    rw [Nat.zero_add] at h2
    rw [h2] at h1
    obtain ⟨q1, q2, _, u, q4, q5⟩ := h1
    exact ⟨q1, q2, u, q4, q5⟩
  refine ⟨τ.drop n, h.unname n rfl fun l x _ hx => Holds.as (fun c v hc' => ?_) hx⟩
  cases c with
  | ptr m off =>
    simp only [fzBox]
    by_cases e : n = m
    · subst e
      have : Nat.beq n n = true := by simp
      rw [this]
      have hv : v = .pointer (some ⟨τ.β n, off, none⟩) := hc'
      refine ⟨⟨τ.β n, 0, none⟩, ?_, fun j t ht => ?_⟩
      · rw [hv]; unfold Addr.add; split <;> simp_all
      · obtain ⟨_, q2, u, q4, q5⟩ := hc j t ht
        refine ⟨⟨?_, fun m hm => ?_⟩, u, ?_, q5.mono fun _ => Env.S_drop⟩
        · rcases (h.acc n _ q2).2 with h3 | h3
          · exact .inr (.inr h3)
          · exact .inr (.inl h3)
        · obtain ⟨h3, h4⟩ := Tie.drop_ρ hm
          exact h3 (h.inj m n _ h4 q2)
        · have : (⟨τ.β n, 0, none⟩ : Addr).add j = ⟨τ.β n, j, none⟩ := by unfold Addr.add; split <;> simp_all
          rw [this]; exact q4
    · have : Nat.beq n m = false := by
        rw [Bool.eq_false_iff]
        exact fun h => e (Nat.eq_of_beq_eq_true h)
      rw [this]
      exact hc'
  | _ => exact hc'

/-- nil, from now on, is a row of nothing. -/
theorem Sim.nilRow {E : Env} {σ : St} {a : Act} {w : World} (h : Sim E σ a w) {n e sz : Nat} {l : Loc} {x y : Val} (hlim : n < 1000000) (hn : Fresh n σ) (h0 : 0 < sz) (hl : look σ l = x)
    (hxy : (x = .m (.one (.t (.v (.slice none 0 0)))) ∧ y = .m (.one (.row n))) ∨ (x = .c (.t (.v (.slice none 0 0))) ∧ y = .c (.row n))) : Sim E ((l, y) :: (.row n, .r e sz []) :: σ) a w := by
  obtain ⟨τ, h⟩ := h
  have h1 : SimAt E (τ.bind n none (.slice none 0 0) true) ((.row n, .r e sz []) :: σ) a w := by
    refine h.move rfl rfl ⟨rfl, Nat.le_refl _⟩ (Nat.le_refl _) (fun _ _ _ => rfl) ?_ ?_ ?_ (Tie.kept_bind hlim) ?_
    · intro m m' k h1 h2
      simp only [Tie.bind] at h1 h2
      split at h1
      · cases h1
      · split at h2
        · cases h2
        · exact h.inj m m' k h1 h2
    · intro m k h1
      simp only [Tie.bind] at h1
      split at h1
      · cases h1
      · exact (h.acc m k h1).1
    · intro m k h1 _
      simp only [Tie.bind] at h1
      split at h1
      · cases h1
      · exact ⟨m, h1⟩
    · intro hs k
      rw [look_cons]
      by_cases e1 : Loc.row n = k
      · subst e1
        rw [if_pos rfl]
        refine ⟨by simp [Tie.bind], by simp [Tie.bind, Value.ownBlock], h0, by simp, [], ?_, fun i cs j t h => by simp at h⟩
        simpa [Tie.bind] using World.ownsRow_nil w 0 e sz
      · rw [if_neg e1]
        by_cases hg : look σ k = .gone
        · rw [hg]; cases k <;> exact trivial
        refine (h.get k).step hs (fun m hm => ?_) (fun m hm => ?_)
        · have : m ≠ n := by rintro rfl; exact names_fresh hn k hm
          simp [Tie.bind, this]
        · have : m ≠ n := by rintro rfl; exact hg (look_fresh hn hm)
          exact ⟨by simp [Tie.bind, this], by simp [Tie.bind, this], by simp [Tie.bind, this], by simp [Tie.bind, this], fun _ _ => rfl⟩
  have hxg : x ≠ .gone := by rcases hxy with ⟨h, _⟩ | ⟨h, _⟩ <;> rw [h] <;> simp
  have hln : Loc.row n ≠ l := by
    rintro rfl
    have := look_fresh hn (l := .row n) (by simp [Loc.names])
    rw [hl] at this
    exact hxg this
  refine ⟨_, h1.relabel (l := l) (x := x) (by rw [look_cons_ne _ _ hln]; exact hl) fun hx => ?_⟩
  rcases hxy with ⟨rfl, rfl⟩ | ⟨rfl, rfl⟩
  · cases l with
    | tmp t =>
      have h2 : RepT w (E.S (τ.bind n none (.slice none 0 0) true)) (.v (.slice none 0 0)) (a.tmps.getD t undef) := hx
      generalize hu : a.tmps.getD t undef = u at h2
      cases h2
      show RepC w (E.S (τ.bind n none (.slice none 0 0) true)) _ (.row n) (a.tmps.getD t undef)
      rw [hu]
      exact ⟨by simp [Tie.bind], rfl⟩
    | _ => exact hx
  · cases l with
    | cell m j =>
      obtain ⟨q1, q2, q3, u, q4, q5⟩ := hx
      have h2 : RepT w (E.S (τ.bind n none (.slice none 0 0) true)) (.v (.slice none 0 0)) u := q5
      cases h2
      exact ⟨q1, q2, q3, _, q4, by simp [Tie.bind], rfl⟩
    | _ => exact hx

section
variable {P : Program} {N : Nat} {o : Oper} {c : Code} {σ : St} {Q : Exit → St → Prop}
theorem aw_freezeRow {n e sz : Nat} {es : List (List T)} (hn : look σ (.row n) = .r e sz es) (h : AW P N c (freezeRow n es σ) Q) : AW P N c σ Q := aw_sub (fun _ _ _ _ hs => hs.freezeRow hn) h
theorem aw_freezeBox {n : Nat} {cs : List T} (hn : agree σ (cellsAt n 0 (cs.map .t))) (h : AW P N c (freezeBox n cs σ) Q) : AW P N c σ Q := aw_sub (fun _ _ _ _ hs => hs.freezeBox hn) h
theorem aw_nilRow {t n : Nat} (e sz : Nat) (hlim : n < 1000000) (hn : fresh n σ = true) (h0 : 0 < sz) (hl : look σ (.tmp t) = .m (.one (.t (.v (.slice none 0 0))))) (h : AW P N c ((.tmp t, .m (.one (.row n))) :: (.row n, .r e sz []) :: σ) Q) : AW P N c σ Q :=
  aw_sub (fun _ _ _ _ hs => hs.nilRow hlim (.of_bool hn) h0 hl (.inl ⟨rfl, rfl⟩)) h
theorem aw_nilRowC {b j n : Nat} (e sz : Nat) (hlim : n < 1000000) (hn : fresh n σ = true) (h0 : 0 < sz) (hl : look σ (.cell b j) = .c (.t (.v (.slice none 0 0)))) (h : AW P N c ((.cell b j, .c (.row n)) :: (.row n, .r e sz []) :: σ) Q) : AW P N c σ Q :=
  aw_sub (fun _ _ _ _ hs => hs.nilRow hlim (.of_bool hn) h0 hl (.inr ⟨rfl, rfl⟩)) h

/-- A fresh row that is never written again: a list at once. -/
theorem LCore.frozen {d e sz : Nat} {es : List (List T)} {rd wr : List (Loc × Val)} (hw : ∀ p ∈ wr, killed d p.1 = false ∧ d ∉ p.2.names) (h : LCore P N o rd ((.tmp d, .m (.one (.row d))) :: (.row d, .r e sz es) :: wr) [d]) : LCore P N o rd ((.tmp d, .m (.one (.t (.sl es)))) :: wr) [d] := by
  intro E σ hN hr hf K Q a w hs hk
  refine h E σ hN hr hf K Q a w hs fun a' w' hs' => hk a' w' ?_
  have h1 := hs'.freezeRow (n := d) (e := e) (sz := sz) (es := es) (by
    show look ((Loc.tmp d, _) :: (Loc.row d, _) :: _) _ = _
    rw [look_cons_ne _ _ (by simp), look_cons_same])
  refine h1.congr' fun l => ?_
  unfold PM.freezeRow
  rw [look_mapSt rfl]
  have hfd := hf d (by simp)
  show look ((Loc.tmp d, _) :: (wr ++ σ)) l = Val.gone ∨ look ((Loc.tmp d, _) :: (wr ++ σ)) l = bif killed d l then .gone else Val.as _ (look ((Loc.tmp d, _) :: (Loc.row d, _) :: (wr ++ σ)) l)
  by_cases e1 : Loc.tmp d = l
  · subst e1
    right
    rw [look_cons_same, look_cons_same]
    simp [killed, Loc.names, Val.as, C.as, fzRow]
  · rw [look_cons_ne _ _ e1, look_cons_ne _ _ e1]
    have key : ∀ x : Val, d ∉ x.names → Val.as (fzRow d es) x = x := fun x hx => by
      have hc : ∀ c : C, d ∉ c.names → fzRow d es c = c := fun c hc => by
        cases c with
        | row m =>
          simp only [fzRow]
          have : Nat.beq d m = false := by
            rw [Bool.eq_false_iff]
            intro h
            exact hc (by simp [C.names, Nat.eq_of_beq_eq_true h])
          rw [this]; rfl
        | _ => rfl
      have hcs : ∀ cs : List C, d ∉ cs.flatMap C.names → cs.map (fzRow d es) = cs := fun cs hcs => by
        refine (List.map_congr_left fun c hm => hc c fun hd => hcs (List.mem_flatMap.2 ⟨c, hm, hd⟩)).trans (List.map_id _)
      cases x with
      | gone => rfl
      | r _ _ _ => rfl
      | o _ => rfl
      | c x => exact congrArg Val.c (hc x hx)
      | m x => cases x with
        | one c => exact congrArg (fun c => Val.m (.one c)) (hc c hx)
        | agg cs => exact congrArg (fun cs => Val.m (.agg cs)) (hcs cs hx)
        | tup ms =>
          refine congrArg (fun ms => Val.m (.tup ms)) ?_
          refine (List.map_congr_left fun b hm => ?_).trans (List.map_id _)
          show (b.1, _) = b
          rw [hcs b.2 fun hd => hx (List.mem_flatMap.2 ⟨b, hm, hd⟩)]
    by_cases e2 : killed d l = true
    · left
      have hmem : d ∈ l.names := by
        obtain ⟨m, hm, hb⟩ := List.any_eq_true.1 e2
        rw [Nat.eq_of_beq_eq_true hb]; exact hm
      rw [look_append]
      cases hw' : has l wr with
      | false => exact look_fresh hfd hmem
      | true =>
        obtain ⟨p, hp, hpe⟩ := List.any_eq_true.1 hw'
        have := (hw p hp).1
        rw [Loc.same_iff.1 hpe, e2] at this
        cases this
    · simp only [Bool.not_eq_true] at e2
      right
      have e3 : Loc.row d ≠ l := by rintro rfl; simp [killed, Loc.names] at e2
      rw [e2, look_cons_ne _ _ e3, cond_false, key]
      rw [look_append]
      cases hw' : has l wr with
      | false => exact names_fresh hfd l
      | true =>
        simp only [cond_true]
        by_cases hg : look wr l = .gone
        · rw [hg]; simp [Val.names]
        · exact (hw _ (look_mem rfl hg)).2
end
end Go.PM
