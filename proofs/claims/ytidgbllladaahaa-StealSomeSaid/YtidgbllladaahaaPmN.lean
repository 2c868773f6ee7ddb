/- A part of a layer between the model's runs and plain values: steps of code simulate plain functions; no program is named here. -/
import Derived.Test.YtidgbllladaahaaPmM
import Derived.Laws.Cover3
set_option linter.all false
namespace Go.PM
open Go Go.RowKit

section
variable {P : Program} {N : Nat} {σ σ' : St} {Q : Exit → St → Prop} {o : Oper} {d : Nat} {t t2 e : TypeId} {x y : Operand} {rx rs : List (Loc × Val)}

/-- One operation more, after a chain: it may end in more than one way. -/
theorem Chain.wpListMore {ops : Array Oper} {l rest : List Oper} {es : List Ent} (h : Chain P N ops l σ es σ') {E : Env} (hN : E.N = N) {Q : Exit → Act → World → Prop} {a : Act} {w : World} (hs : Sim E σ a w) (hk : ∀ a' w', Sim E σ' a' w' → Go.wpList P ops Q rest a' w') : Go.wpList P ops Q (l ++ rest) a w := by
  induction h generalizing a w with
  | nil => exact hk _ _ hs
  | cons h hr hf _ ih =>
    rw [List.cons_append]
    refine wpList_step fun K hK => ?_
    exact h E _ hN hr (fun n hn => .of_bool (List.all_eq_true.1 hf n hn)) K Q a w hs (fun a' w' hs' => hK a' w' (ih hs' hk))

/-- Is it nil? Of an empty list nobody knows. -/
theorem aw_region_nil {i : Nat} {ops : Array Oper} {es : List Ent} {l : List (List T)} {pre : List Oper} (h : Chain P N ops pre σ es σ') (hops : ops.toList = pre ++ [o]) (hg : o.guard = none) (ho : o.op = .binOp .eql t x (.const (.slice none 0 0)) t2) (hd : o.dst = some d) (hN : d < N)
    (ht : P.underlying t = some (.slice e)) (hx : EvT x l rx) (hr : agree σ' rx) (hq : ∀ b, (b = true → l = []) → Q .normal ((.tmp d, .m (.one (.t (.v (.bool b))))) :: σ')) : AW P N (.region i ops false) σ Q := fun E hE R a w hs hk => by
  refine wp_region_list ?_
  rw [hops]
  refine h.wpListMore hE hs fun a1 w1 hs1 => ?_
  obtain ⟨τ, hs1⟩ := hs1
  have hrep := hx E τ σ' a1 w1 hr hs1
  obtain ⟨A, c, hv, hc⟩ := tree_shape hrep
  have hb : A.isNone = true → l = [] := fun hA => by
    cases A with
    | some _ => cases hA
    | none =>
      rw [hv] at hrep
      cases hrep with
      | nil => rfl
  refine wpList_step fun K hK => ?_
  rw [if_pos (by simp [Region.wanted, hg])]
  refine wp_value (v := .bool A.isNone) (w' := w1) ?_ ?_
  · have hcst : a1.eval (.const (.slice none 0 0)) = .slice none 0 0 := rfl
    simp only [execOp, ho, hv, hcst]
    exact run_value (fun x => Next.value x) (by simp [eqGuard, binOp, run_equal_slice_nil w1 t e A l.length c ht])
  · rw [hd]
    exact hK _ _ (hk _ _ _ _ (hq A.isNone hb) ⟨τ, hs1.put (by rw [hE]; exact hN) (.v rfl)⟩)

/-- A function that hands back a fresh row hands back a list. -/
theorem ACalls.frozen {f : FuncId} {ins : List M} {n e sz : Nat} {es : List (List T)} (h : ACalls P f ins [] (.one (.row n)) [(.row n, .r e sz es)]) : ACalls P f ins [] (.one (.t (.sl es))) [] := by
  refine ⟨h.1, fun w S0 O τ vals hs hv => Calls.mono (h.2 w S0 O τ vals hs hv) ?_⟩
  rintro e' w' ⟨v, τ', rfl, hs', hr, hn⟩
  have hrow := hs'.get (.row n)
  rw [look_cons_same] at hrow
  obtain ⟨hκ, hb, hrow⟩ := hrow
  have h2 : RepT w' (Env.S ⟨w, 0, S0, O, τ⟩ (τ'.drop n)) (.sl es) (τ'.ν n) := by
    have h2 : RowOk w' (Env.S ⟨w, 0, S0, O, τ⟩ (τ'.drop n)) (τ'.ν n) e sz es := hrow.step (fun k _ hk => ⟨Env.S_drop hk, rfl⟩) (fun _ _ => rfl)
    refine h2.toT fun k hk => ⟨?_, fun m hm => ?_⟩
    · rw [hb] at hk
      rcases (hs'.acc n k hk).2 with h3 | h3
      · exact .inr (.inr h3)
      · exact .inr (.inl h3)
    · obtain ⟨h3, h4⟩ := Tie.drop_ρ hm
      rw [hb] at hk
      exact h3 (hs'.inj m n k h4 hk)
  refine ⟨v, τ'.drop n, rfl, (hs'.unname n (f := id) rfl (fun _ _ _ h => h)).less fun l => .inl rfl, ?_, fun m k hm => hn m k (Tie.drop_ρ hm).2⟩
  have hv' : v = τ'.ν n := hr.1
  rw [hv']
  exact h2
end
end Go.PM
