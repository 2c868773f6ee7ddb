/- StealSome: the plain law: that what the walks' functions compute answers as the statement says. -/
import Derived.Test.YtidgbllladaahaaStealSomeWalkC
import Derived.Test.YtidgbllladaahaaPmR
set_option linter.all false
namespace Go.PM
open Go
/-! ### Words -/
theorem wi64_of {n : Int} (h : -9223372036854775808 ≤ n ∧ n ≤ 9223372036854775807) : wi64 n = n := IntWalk.i64_in n h
theorem at_nat {α : Type} (l : List α) (i : Nat) : at_ l (i : Int) = l[i]? := by
  unfold at_
  rw [if_neg (by omega)]
  rfl
theorem at_lt_some {α : Type} {l : List α} {i : Int} (h : 0 ≤ i) (h2 : i < l.length) : ∃ x, at_ l i = some x ∧ l[i.toNat]? = some x := by
  obtain ⟨k, rfl⟩ : ∃ k : Nat, i = k := ⟨i.toNat, by omega⟩
  refine ⟨l[k]'(by omega), ?_, ?_⟩
  · rw [at_nat]; exact List.getElem?_eq_getElem (by omega)
  · exact List.getElem?_eq_getElem (by simp at h2; simpa using h2)
theorem app_of' {α : Type} {l m : List α} (h : l.length + m.length ≤ 1000000000) : app_ l m = some (l ++ m) := if_pos h
theorem take_nat {α : Type} {l : List α} {i : Nat} (h : i ≤ l.length) : take_ l (i : Int) = some (l.take i) := by
  unfold take_
  rw [if_pos (by omega)]
  rfl
theorem drop_nat {α : Type} {l : List α} {i : Nat} (h : i ≤ l.length) : drop_ l (i : Int) = some (l.drop i) := by
  unfold drop_
  rw [if_pos (by omega)]
  rfl
theorem need_true {p : Prop} [Decidable p] (h : p) : need p = some () := if_pos h

/-! ### Loops -/
theorem loop_run {α β : Type} {body : α → Option (α ⊕ β)} (st : Nat → α) {r : β} : ∀ (n : Nat), (∀ i, i < n → body (st i) = some (.inl (st (i + 1)))) → body (st n) = some (.inr r) → ∀ {k : Nat}, n < k → loopO body k (st 0) = some r := by
  intro n
  induction n generalizing st with
  | zero =>
    intro _ he k hk
    obtain ⟨k, rfl⟩ : ∃ j, k = j + 1 := ⟨k - 1, by omega⟩
    simp [loopO, he]
  | succ n ih =>
    intro hs he k hk
    obtain ⟨k, rfl⟩ : ∃ j, k = j + 1 := ⟨k - 1, by omega⟩
    simp only [loopO, hs 0 (by omega), Option.bind_some]
    exact ih (fun i => st (i + 1)) (fun i hi => hs (i + 1) (by omega)) he (by omega)

/-- What a search says that stops at the first i at which q says something. -/
def stopped {γ : Type} : Option γ → Unit ⊕ γ
  | some j => .inr j
  | none => .inl ()
theorem loop_search {γ : Type} {body : Int → Option (Int ⊕ (Unit ⊕ γ))} (s N : Nat) (q : Nat → Option γ) (hsN : s ≤ N) (hb : ∀ i : Nat, s ≤ i → i < N → body i = some (match q i with
    | some j => .inr (.inr j)
    | none => .inl ((i + 1 : Nat) : Int))) (he : body (N : Int) = some (.inr (.inl ()))) {k : Nat} (hk : N - s < k) : loopO body k (s : Int) = some (stopped ((List.range' s (N - s)).findSome? q)) := by
  obtain ⟨m, rfl⟩ : ∃ m, N = s + m := ⟨N - s, by omega⟩
  rw [show s + m - s = m by omega] at hk ⊢
  clear hsN
  induction m generalizing s k with
  | zero =>
    obtain ⟨k, rfl⟩ : ∃ j, k = j + 1 := ⟨k - 1, by omega⟩
    simp only [Nat.add_zero] at he
    simp [loopO, he, stopped]
  | succ m ih =>
    obtain ⟨k, rfl⟩ : ∃ j, k = j + 1 := ⟨k - 1, by omega⟩
    simp only [loopO, hb s (Nat.le_refl _) (by omega), Option.bind_some, List.range'_succ, List.findSome?_cons]
    cases hq : q s with
    | some j => rfl
    | none =>
      simp only
      exact ih (s + 1) (fun i h1 h2 => hb i (by omega) (by omega)) (by rw [show s + 1 + m = s + (m + 1) by omega]; exact he) (by omega)
theorem loop_search0 {γ : Type} {body : Int → Option (Int ⊕ (Unit ⊕ γ))} (N : Nat) (q : Nat → Option γ) (hb : ∀ i : Nat, i < N → body i = some (match q i with
    | some j => .inr (.inr j)
    | none => .inl ((i + 1 : Nat) : Int))) (he : body (N : Int) = some (.inr (.inl ()))) {k : Nat} (hk : N < k) : loopO body k 0 = some (stopped ((List.range N).findSome? q)) := by
  have := loop_search 0 N q (Nat.zero_le _) (fun i _ h => hb i h) he (k := k) (by omega)
  rw [List.range_eq_range']
  exact this

theorem length_flatMap_le {α : Type} (g : Nat → List α) (B : Nat) : ∀ N : Nat, (∀ i, i < N → (g i).length ≤ B) → ((List.range N).flatMap g).length ≤ N * B := by
  intro N
  induction N with
  | zero => intro _; simp
  | succ N ih =>
    intro h
    rw [List.range_succ, List.flatMap_append, List.length_append]
    have h1 := ih fun i hi => h i (by omega)
    have h2 := h N (by omega)
    have h3 : (List.flatMap g [N]).length = (g N).length := by simp
    rw [h3, Nat.add_mul]
    omega
theorem loop_collect {α : Type} {body : (List α × Int) → Option ((List α × Int) ⊕ List α)} (N B : Nat) (g : Nat → List α) (hB : ∀ i, i < N → (g i).length ≤ B) (acc : List α) (hsz : acc.length + N * B ≤ 1000000000)
    (hb : ∀ (a : List α) (i : Nat), i < N → a.length + B ≤ 1000000000 → body (a, (i : Int)) = some (.inl (a ++ g i, ((i + 1 : Nat) : Int)))) (he : ∀ a, body (a, (N : Int)) = some (.inr a)) {k : Nat} (hk : N < k) :
    loopO body k (acc, 0) = some (acc ++ (List.range N).flatMap g) := by
  have := loop_run (body := body) (fun i => (acc ++ (List.range i).flatMap g, (i : Int))) N (fun i hi => by
    have h1 := length_flatMap_le g B i fun j hj => hB j (by omega)
    have h2 : (i + 1) * B ≤ N * B := Nat.mul_le_mul_right _ (by omega)
    rw [Nat.add_mul] at h2
    rw [hb _ i hi (by rw [List.length_append]; omega), List.range_succ, List.flatMap_append, ← List.append_assoc]
    simp) (he _) hk
  simpa using this

/-- The places at which something holds. -/
def pickAt {α : Type} (t : List α) (p : α → Bool) (i : Nat) : List Int := match t[i]? with
  | some x => bif p x then [(i : Int)] else []
  | none => []
theorem pickAt_some {α : Type} {t : List α} {p : α → Bool} {i : Nat} {x : α} (h : t[i]? = some x) : pickAt t p i = bif p x then [(i : Int)] else [] := by unfold pickAt; rw [h]
theorem pickAt_len {α : Type} {t : List α} {p : α → Bool} {i : Nat} : (pickAt t p i).length ≤ 1 := by
  unfold pickAt
  split
  · cases p _ <;> simp
  · simp
def pick {α : Type} (t : List α) (p : α → Bool) : List Int := (List.range t.length).flatMap (pickAt t p)
theorem fuel_lt {n : Nat} (h : n < 1000000000) : n < fuel := h
theorem loop_pick {α : Type} {body : (List Int × Int) → Option ((List Int × Int) ⊕ List Int)} (t : List α) (p : α → Bool) (hl : t.length ≤ 1000000) (hb : ∀ (a : List Int) (i : Nat) (x : α), t[i]? = some x → i < t.length → a.length + 1 ≤ 1000000000 → body (a, (i : Int)) = some (.inl (a ++ (bif p x then [(i : Int)] else []), ((i + 1 : Nat) : Int))))
    (he : ∀ a, body (a, (t.length : Int)) = some (.inr a)) : loopO body fuel ([], 0) = some (pick t p) := by
  have := loop_collect t.length 1 (pickAt t p) (fun i _ => pickAt_len) [] (by simp; omega) (body := body) (fun a i hi hs => by
      have ht := List.getElem?_eq_getElem hi
      rw [pickAt_some ht]
      exact hb a i _ ht hi hs) he (fuel_lt (by omega))
  simpa [pick] using this
theorem mem_pickAt {α : Type} {t : List α} {p : α → Bool} {i : Nat} {n : Int} : n ∈ pickAt t p i ↔ n = i ∧ ∃ x, t[i]? = some x ∧ p x = true := by
  unfold pickAt
  split
  · rename_i x hx
    cases hp : p x with
    | true => simp only [cond_true, List.mem_singleton]; exact ⟨fun h => ⟨h, x, hx, hp⟩, fun h => h.1⟩
    | false => simp only [cond_false, List.not_mem_nil, false_iff]; rintro ⟨_, y, hy, hq⟩; rw [hx] at hy; injection hy with hy; subst hy; rw [hp] at hq; cases hq
  · rename_i hx
    simp only [List.not_mem_nil, false_iff]
    rintro ⟨_, y, hy, _⟩; rw [hx] at hy; cases hy
theorem mem_pick {α : Type} {t : List α} {p : α → Bool} {n : Int} : n ∈ pick t p ↔ ∃ (i : Nat) (x : α), n = i ∧ t[i]? = some x ∧ p x = true := by
  unfold pick
  simp only [List.mem_flatMap, List.mem_range, mem_pickAt]
  constructor
  · rintro ⟨i, _, rfl, x, hx, hp⟩; exact ⟨i, x, rfl, hx, hp⟩
  · rintro ⟨i, x, rfl, hx, hp⟩; exact ⟨i, (List.getElem?_eq_some_iff.1 hx).1, rfl, x, hx, hp⟩
theorem pick_length {α : Type} {t : List α} {p : α → Bool} : (pick t p).length ≤ t.length := by
  have := length_flatMap_le (pickAt t p) 1 t.length (fun i _ => pickAt_len)
  simpa [pick] using this
/-- They rise. -/
theorem pick_sorted {α : Type} {t : List α} {p : α → Bool} : (pick t p).Pairwise (· < ·) := by
  unfold pick
  rw [List.pairwise_flatMap]
  refine ⟨fun i _ => ?_, ?_⟩
  · have := pickAt_len (t := t) (p := p) (i := i)
    match hl : pickAt t p i, this with
    | [], _ => exact .nil
    | [a], _ => exact List.pairwise_singleton _ _
  · refine List.pairwise_lt_range.imp ?_
    intro a b hab x hx y hy
    have h1 := (mem_pickAt.1 hx).1
    have h2 := (mem_pickAt.1 hy).1
    omega
/-! ### Trees -/
abbrev Tree := List (Int × Int)
def kids (t : Tree) (v : Int) : List Int := pick t fun x => decide (x.1 = v)
def lev (t : Tree) (l : Int) : List Int := pick t fun x => decide (x.2 = l)
theorem wi64_succ {i : Nat} (h : i ≤ 1000000000) : wi64 ((i : Int) + 1) = ((i + 1 : Nat) : Int) := by
  rw [wi64_of (by omega)]; rfl
theorem getE {t : Tree} {i : Nat} {x : Int × Int} (h : t[i]? = some x) : at_ t (i : Int) = some x := by rw [at_nat, h]

theorem topo_Kids_eq {t : Tree} (hl : t.length ≤ 1000000) (v : Int) : topo_Kids t v = some (kids t v) := by
  unfold topo_Kids
  rw [show loopO (topo_Kids_L1 t v) fuel (([] : List Int), 0) = some (kids t v) from loop_pick t _ hl (fun a i x hx hi ha => by
    have h1 : decide ((i : Int) < (t.length : Int)) = true := decide_eq_true (by omega)
    simp only [topo_Kids_L1, h1, cond_true, getE hx, Option.bind_some]
    cases hp : decide (x.1 = v) with
    | true => simp only [cond_true, app_of' (show a.length + [(i : Int)].length ≤ 1000000000 by simpa using ha), Option.bind_some, wi64_succ (show i ≤ 1000000000 by omega)]
    | false => simp only [cond_false, Option.bind_some, wi64_succ (show i ≤ 1000000000 by omega), List.append_nil]) (fun a => by
    have h1 : decide ((t.length : Int) < (t.length : Int)) = false := decide_eq_false (by omega)
    simp only [topo_Kids_L1, h1, cond_false])]
  rfl
theorem topo_level_eq {t : Tree} (hl : t.length ≤ 1000000) (l : Int) : topo_level t l = some (lev t l) := by
  unfold topo_level
  rw [show loopO (topo_level_L1 t l) fuel (([] : List Int), 0) = some (lev t l) from loop_pick t _ hl (fun a i x hx hi ha => by
    have h1 : decide ((i : Int) < (t.length : Int)) = true := decide_eq_true (by omega)
    simp only [topo_level_L1, h1, cond_true, getE hx, Option.bind_some]
    cases hp : decide (x.2 = l) with
    | true => simp only [cond_true, app_of' (show a.length + [(i : Int)].length ≤ 1000000000 by simpa using ha), Option.bind_some, wi64_succ (show i ≤ 1000000000 by omega)]
    | false => simp only [cond_false, Option.bind_some, wi64_succ (show i ≤ 1000000000 by omega), List.append_nil]) (fun a => by
    have h1 : decide ((t.length : Int) < (t.length : Int)) = false := decide_eq_false (by omega)
    simp only [topo_level_L1, h1, cond_false])]
  rfl
theorem ref01_Kids_eq {t : Tree} (hl : t.length ≤ 1000000) (v : Int) : ref01_Kids t v = some (kids t v) := (show ref01_Kids t v = topo_Kids t v from rfl).trans (topo_Kids_eq hl v)
theorem ref01_Of_eq {t : Tree} (hl : t.length ≤ 1000000) (l : Int) : ref01_Of t l = some (lev t l) := (show ref01_Of t l = topo_level t l from rfl).trans (topo_level_eq hl l)
theorem topo_Procs_eq {t : Tree} (hl : t.length ≤ 1000000) : topo_Procs t = some (lev t 3) := by unfold topo_Procs; rw [topo_level_eq hl]; rfl
theorem topo_Nodes_eq {t : Tree} (hl : t.length ≤ 1000000) : topo_Nodes t = some (lev t 1) := by unfold topo_Nodes; rw [topo_level_eq hl]; rfl

/-- A vertex stands rightly below the one above it. -/
def Below1 (t : Tree) (i : Nat) (x : Int × Int) : Prop := if i = 0 then x.1 = -1 ∧ x.2 = 0 else 0 ≤ x.1 ∧ x.1 < i ∧ (∃ y, t[x.1.toNat]? = some y ∧ x.2 = wi64 (y.2 + 1)) ∧ x.2 ≤ 3
def Vert (t : Tree) (i : Nat) (x : Int × Int) : Prop := Below1 t i x ∧ (x.2 = 3 ↔ kids t i = []) ∧ (kids t i).length ≤ 8
/-- A tree that may be. -/
def TOk (t : Tree) : Prop := 1 ≤ t.length ∧ t.length ≤ 64 ∧ (lev t 3).length ≤ 32 ∧ ∀ (i : Nat) (x : Int × Int), t[i]? = some x → Vert t i x

theorem topo_below_eq {t : Tree} {i : Nat} {x : Int × Int} (hx : t[i]? = some x) : ∃ b, topo_below t i = some b ∧ (b = true ↔ Below1 t i x) := by
  unfold topo_below Below1
  rw [getE hx]
  simp only [Option.bind_some]
  by_cases h0 : i = 0
  · subst h0
    refine ⟨decide (x.1 = -1) && decide (x.2 = 0), ?_, by simp⟩
    cases hp : decide (x.1 = -1) <;> simp
  · have hd : decide ((i : Int) = 0) = false := decide_eq_false (by omega)
    rw [hd, if_neg h0]
    simp only [cond_false]
    by_cases h1 : 0 ≤ x.1
    · by_cases h2 : x.1 < i
      · have hlt : i < t.length := (List.getElem?_eq_some_iff.1 hx).1
        obtain ⟨y, hy, hy'⟩ := at_lt_some (l := t) h1 (by omega)
        refine ⟨decide (x.2 = wi64 (y.2 + 1)) && decide (x.2 ≤ 3), ?_, ?_⟩
        · simp only [decide_eq_true h1, decide_eq_true h2, cond_true, hy, Option.bind_some]
          cases decide (x.2 = wi64 (y.2 + 1)) <;> simp
        · simp only [Bool.and_eq_true, decide_eq_true_eq]
          constructor
          · rintro ⟨a, b⟩; exact ⟨h1, h2, ⟨y, hy', a⟩, b⟩
          · rintro ⟨_, _, ⟨y', hy2, a⟩, b⟩
            rw [hy'] at hy2
            injection hy2 with hy2
            subst hy2
            exact ⟨a, b⟩
      · exact ⟨false, by simp [h1, h2], by simp; intro _ h; exact absurd h h2⟩
    · exact ⟨false, by simp [h1], by simp; intro h; exact absurd h h1⟩

theorem findSome_none {γ : Type} {q : Nat → Option γ} {l : List Nat} (h : ∀ i ∈ l, q i = none) : l.findSome? q = none := by
  rw [List.findSome?_eq_none_iff]; exact h
theorem findSome_const {γ : Type} {q : Nat → Option γ} {c : γ} {l : List Nat} (h : ∀ i j, q i = some j → j = c) (he : ∃ i ∈ l, q i ≠ none) : l.findSome? q = some c := by
  cases hf : l.findSome? q with
  | none =>
    rw [List.findSome?_eq_none_iff] at hf
    obtain ⟨i, hi, hq⟩ := he
    exact absurd (hf i hi) hq
  | some j =>
    obtain ⟨i, _, hi⟩ := List.exists_of_findSome?_eq_some hf
    rw [h _ _ hi]

open Classical in
theorem topo_Check_eq {t : Tree} (hl : t.length ≤ 1000000) : topo_Check t = some (if TOk t then 0 else 2) := by
  unfold topo_Check
  rw [topo_Procs_eq hl]
  by_cases h1 : t.length < 1
  · have : ¬ TOk t := fun h => by have := h.1; omega
    have hd : decide ((t.length : Int) < 1) = true := decide_eq_true (by omega)
    simp [hd, this]
  · by_cases h2 : 64 < t.length
    · have : ¬ TOk t := fun h => by have := h.2.1; omega
      have hd : decide ((t.length : Int) < 1) = false := decide_eq_false (by omega)
      have hd2 : decide (64 < (t.length : Int)) = true := decide_eq_true (by omega)
      simp [hd, hd2, this]
    · have hd : decide ((t.length : Int) < 1) = false := decide_eq_false (by omega)
      have hd2 : decide (64 < (t.length : Int)) = false := decide_eq_false (by omega)
      by_cases h3 : 32 < (lev t 3).length
      · have : ¬ TOk t := fun h => by have := h.2.2.1; omega
        have hd3 : decide (32 < ((lev t 3).length : Int)) = true := decide_eq_true (by omega)
        simp [hd, hd2, hd3, this]
      · have hd3 : decide (32 < ((lev t 3).length : Int)) = false := decide_eq_false (by omega)
        simp only [hd, hd2, hd3, cond_false, Option.bind_some]
        have hloop := loop_search0 (body := topo_Check_L1 t) t.length (fun i => match t[i]? with
          | some x => if Vert t i x then none else some (2 : Int)
          | none => none) (fun i hi => by
            have hx := List.getElem?_eq_getElem hi
            generalize t[i] = x at hx
            have hdi : decide ((i : Int) < (t.length : Int)) = true := decide_eq_true (by omega)
            obtain ⟨b, hb, hbi⟩ := topo_below_eq hx
            simp only [topo_Check_L1, hdi, cond_true, topo_Kids_eq hl, getE hx, Option.bind_some, hb, hx]
            unfold Vert
            cases b with
            | false =>
              have : ¬ Below1 t i x := fun h => by have := hbi.2 h; cases this
              simp [this]
            | true =>
              have hB : Below1 t i x := hbi.1 rfl
              have e1 : decide (((kids t i).length : Int) = 0) = decide (kids t i = []) := by
                rw [decide_eq_decide]; constructor
                · intro h; exact List.eq_nil_of_length_eq_zero (by omega)
                · intro h; rw [h]; rfl
              have e2 : (decide (x.2 = 3) == decide (kids t i = [])) = decide (x.2 = 3 ↔ kids t i = []) := by
                by_cases h4 : x.2 = 3 <;> by_cases h5 : kids t i = [] <;> simp [h4, h5]
              have e3 : decide (8 < ((kids t i).length : Int)) = !decide ((kids t i).length ≤ 8) := by
                by_cases h6 : (kids t i).length ≤ 8
                · rw [decide_eq_true h6, decide_eq_false (by omega)]; rfl
                · rw [decide_eq_false h6, decide_eq_true (by omega)]; rfl
              simp only [Bool.not_true, cond_false, e1, e2, e3]
              by_cases h4 : x.2 = 3 ↔ kids t i = []
              · by_cases h6 : (kids t i).length ≤ 8
                · rw [if_pos ⟨hB, h4, h6⟩, decide_eq_true h4, decide_eq_true h6]
                  simp [wi64_succ (show i ≤ 1000000000 by omega)]
                · rw [if_neg (fun h => h6 h.2.2), decide_eq_true h4, decide_eq_false h6]
                  rfl
              · rw [if_neg (fun h => h4 h.2.1), decide_eq_false h4]
                rfl) (by
            have hdi : decide ((t.length : Int) < (t.length : Int)) = false := decide_eq_false (by omega)
            simp only [topo_Check_L1, hdi, cond_false]) (k := fuel) (fuel_lt (by omega))
        rw [hloop]
        by_cases hT : TOk t
        · rw [if_pos hT, findSome_none]
          · rfl
          · intro i hi
            have hx := List.getElem?_eq_getElem (List.mem_range.1 hi)
            rw [hx]
            simp only
            rw [if_pos (hT.2.2.2 _ _ hx)]
        · rw [if_neg hT, findSome_const (c := 2)]
          · rfl
          · intro i j hq
            split at hq
            · split at hq
              · cases hq
              · injection hq with hq; exact hq.symm
            · cases hq
          · apply Classical.byContradiction
            intro hne
            refine hT ⟨by omega, by omega, by omega, fun i x hx => ?_⟩
            apply Classical.byContradiction
            intro hv
            refine hne ⟨i, List.mem_range.2 (List.getElem?_eq_some_iff.1 hx).1, ?_⟩
            rw [hx]
            simp [hv]

/-- The reference's way to say it. -/
def ROk (t : Tree) : Prop := 1 ≤ t.length ∧ t.length ≤ 64 ∧ (lev t 3).length ≤ 32 ∧ (∃ x, t[0]? = some x ∧ x.1 = -1 ∧ x.2 = 0) ∧ (∀ (i : Nat) (x : Int × Int), 1 ≤ i → t[i]? = some x → Below1 t i x) ∧ ∀ (i : Nat) (x : Int × Int), t[i]? = some x → x.2 < 3 → 1 ≤ (kids t i).length ∧ (kids t i).length ≤ 8
theorem ROk_iff {t : Tree} : ROk t ↔ TOk t := by
  constructor
  · rintro ⟨h1, h2, h3, ⟨x0, hx0, ha, hb⟩, h4, h5⟩
    have hbel : ∀ (i : Nat) (x : Int × Int), t[i]? = some x → Below1 t i x := fun i x hx => by
      by_cases hi : i = 0
      · subst hi
        rw [hx0] at hx
        injection hx with hx
        subst hx
        exact (if_pos rfl).mpr ⟨ha, hb⟩
      · exact h4 i x (by omega) hx
    have h3' : ∀ (i : Nat) (x : Int × Int), t[i]? = some x → x.2 ≤ 3 := fun i x hx => by
      have := hbel i x hx
      unfold Below1 at this
      split at this
      · omega
      · exact this.2.2.2
    refine ⟨h1, h2, h3, fun i x hx => ⟨hbel i x hx, ⟨fun hl => ?_, fun hk => ?_⟩, ?_⟩⟩
    · apply Classical.byContradiction
      intro hne
      obtain ⟨n, hn⟩ := List.exists_mem_of_ne_nil _ hne
      obtain ⟨j, y, rfl, hy, hp⟩ := mem_pick.1 hn
      have hp : y.1 = i := by simpa using hp
      have := hbel j y hy
      unfold Below1 at this
      split at this
      · omega
      · obtain ⟨_, _, ⟨z, hz, hw⟩, hle⟩ := this
        rw [hp] at hz
        simp only [Int.toNat_natCast] at hz
        rw [hx] at hz
        injection hz with hz
        subst hz
        rw [hl, wi64_of (by omega)] at hw
        omega
    · have := h3' i x hx
      apply Classical.byContradiction
      intro hne
      have := (h5 i x hx (by omega)).1
      rw [hk] at this
      simp at this
    · have := h3' i x hx
      by_cases hl : x.2 < 3
      · exact (h5 i x hx hl).2
      · have hl3 : x.2 = 3 := by omega
        apply Classical.byContradiction
        intro hne
        obtain ⟨n, hn⟩ := List.exists_mem_of_ne_nil (kids t i) (by intro h; rw [h] at hne; simp at hne)
        obtain ⟨j, y, rfl, hy, hp⟩ := mem_pick.1 hn
        have hp : y.1 = i := by simpa using hp
        have := hbel j y hy
        unfold Below1 at this
        split at this
        · omega
        · obtain ⟨_, _, ⟨z, hz, hw⟩, hle⟩ := this
          rw [hp] at hz
          simp only [Int.toNat_natCast] at hz
          rw [hx] at hz
          injection hz with hz
          subst hz
          rw [hl3, wi64_of (by omega)] at hw
          omega
  · rintro ⟨h1, h2, h3, h4⟩
    refine ⟨h1, h2, h3, ?_, fun i x _ hx => (h4 i x hx).1, fun i x hx hl => ⟨?_, (h4 i x hx).2.2⟩⟩
    · have hx : t[0]? = some t[0] := List.getElem?_eq_getElem (by omega)
      have := (h4 0 _ hx).1
      unfold Below1 at this
      rw [if_pos rfl] at this
      exact ⟨_, hx, this⟩
    · have := (h4 i x hx).2.1
      apply Classical.byContradiction
      intro hne
      have hk : kids t i = [] := List.eq_nil_of_length_eq_zero (by omega)
      have := this.2 hk
      omega

theorem ite_iff {α : Type} {p q : Prop} [Decidable p] [Decidable q] (h : p ↔ q) (a b : α) : (if p then a else b) = if q then a else b := by
  by_cases hp : p
  · rw [if_pos hp, if_pos (h.1 hp)]
  · rw [if_neg hp, if_neg (fun hq => hp (h.2 hq))]
theorem search_all {p : Nat → Prop} [DecidablePred p] {N s : Nat} {c : Int} (hsN : s ≤ N) (h : ∀ i, s ≤ i → i < N → p i) : (List.range' s (N - s)).findSome? (fun i => if p i then none else some c) = none :=
  findSome_none fun i hi => by
    rw [List.mem_range'_1] at hi
    exact if_pos (h i hi.1 (by omega))
theorem search_ex {p : Nat → Prop} [DecidablePred p] {N s : Nat} {c : Int} (h : ∃ i, s ≤ i ∧ i < N ∧ ¬ p i) : (List.range' s (N - s)).findSome? (fun i => if p i then none else some c) = some c := by
  refine findSome_const (fun i j hq => ?_) ?_
  · split at hq
    · cases hq
    · injection hq with hq; exact hq.symm
  · obtain ⟨i, h1, h2, h3⟩ := h
    exact ⟨i, List.mem_range'_1.2 ⟨h1, by omega⟩, by rw [if_neg h3]; simp⟩

open Classical in
theorem ref01_Check_eq {t : Tree} (hl : t.length ≤ 1000000) : ref01_Check t = some (if TOk t then 0 else 2) := by
  rw [← ite_iff ROk_iff]
  unfold ref01_Check
  rw [ref01_Of_eq hl]
  by_cases h1 : t.length = 0
  · have : ¬ ROk t := fun h => by have := h.1; omega
    have hd : decide ((t.length : Int) = 0) = true := decide_eq_true (by omega)
    rw [hd, if_neg this]
    rfl
  have hd : decide ((t.length : Int) = 0) = false := decide_eq_false (by omega)
  by_cases h2 : 64 < t.length
  · have : ¬ ROk t := fun h => by have := h.2.1; omega
    have hd2 : decide (64 < (t.length : Int)) = true := decide_eq_true (by omega)
    simp [hd, hd2, this]
  have hd2 : decide (64 < (t.length : Int)) = false := decide_eq_false (by omega)
  by_cases h3 : 32 < (lev t 3).length
  · have : ¬ ROk t := fun h => by have := h.2.2.1; omega
    have hd3 : decide (32 < ((lev t 3).length : Int)) = true := decide_eq_true (by omega)
    simp [hd, hd2, hd3, this]
  have hd3 : decide (32 < ((lev t 3).length : Int)) = false := decide_eq_false (by omega)
  have hx0 : t[0]? = some t[0] := List.getElem?_eq_getElem (by omega)
  generalize t[0] = x0 at hx0
  have ha0 : at_ t 0 = some x0 := getE (i := 0) hx0
  simp only [hd, hd2, hd3, cond_false, Option.bind_some, ha0]
  by_cases h4 : x0.1 = -1
  · by_cases h5 : x0.2 = 0
    · simp only [decide_eq_true h4, decide_eq_true h5, Bool.not_true, cond_false, Option.bind_some]
      have hl1 := loop_search (body := ref01_Check_L1 t) 1 t.length (fun i => if (∀ x, t[i]? = some x → Below1 t i x) then none else some (2 : Int)) (by omega) (fun i hi hi2 => by
        have hx := List.getElem?_eq_getElem hi2
        generalize t[i] = x at hx
        have hdi : decide ((i : Int) < (t.length : Int)) = true := decide_eq_true (by omega)
        have hq : (∀ y, t[i]? = some y → Below1 t i y) ↔ Below1 t i x := ⟨fun h => h x hx, fun h y hy => by rw [hx] at hy; injection hy with hy; exact hy ▸ h⟩
        rw [ite_iff hq]
        simp only [ref01_Check_L1, hdi, cond_true, getE hx, Option.bind_some]
        unfold Below1
        rw [if_neg (show ¬ i = 0 by omega)]
        by_cases k1 : 0 ≤ x.1
        · by_cases k2 : x.1 < i
          · obtain ⟨y, hy, hy'⟩ := at_lt_some (l := t) k1 (by omega)
            rw [decide_eq_false (show ¬ x.1 < 0 by omega), decide_eq_false (show ¬ (i : Int) ≤ x.1 by omega)]
            simp only [cond_false, hy, Option.bind_some]
            by_cases k3 : x.2 = wi64 (y.2 + 1)
            · by_cases k4 : x.2 ≤ 3
              · rw [if_pos ⟨k1, k2, ⟨y, hy', k3⟩, k4⟩, decide_eq_true k3, decide_eq_false (show ¬ 3 < x.2 by omega)]
                simp [wi64_succ (show i ≤ 1000000000 by omega)]
              · rw [if_neg (fun h => k4 h.2.2.2), decide_eq_true k3, decide_eq_true (show 3 < x.2 by omega)]
                rfl
            · rw [if_neg (fun h => by
                obtain ⟨_, _, ⟨z, hz, hw⟩, _⟩ := h
                rw [hy'] at hz
                injection hz with hz
                subst hz
                exact k3 hw), decide_eq_false k3]
              rfl
          · rw [if_neg (fun h => k2 h.2.1), decide_eq_false (show ¬ x.1 < 0 by omega), decide_eq_true (show (i : Int) ≤ x.1 by omega)]
            rfl
        · rw [if_neg (fun h => k1 h.1), decide_eq_true (show x.1 < 0 by omega)]
          rfl) (by
        have hdi : decide ((t.length : Int) < (t.length : Int)) = false := decide_eq_false (by omega)
        simp only [ref01_Check_L1, hdi, cond_false]) (k := fuel) (fuel_lt (by omega))
      rw [show (1 : Int) = ((1 : Nat) : Int) from rfl, hl1]
      by_cases hA : ∀ i, 1 ≤ i → i < t.length → ∀ x, t[i]? = some x → Below1 t i x
      · rw [search_all (by omega) hA]
        simp only [stopped, Option.bind_some, Sum.elim_inl]
        have hl2 := loop_search0 (body := ref01_Check_L2 t) t.length (fun i => if (∀ x, t[i]? = some x → x.2 < 3 → 1 ≤ (kids t i).length ∧ (kids t i).length ≤ 8) then none else some (2 : Int)) (fun i hi2 => by
          have hx := List.getElem?_eq_getElem hi2
          generalize t[i] = x at hx
          have hdi : decide ((i : Int) < (t.length : Int)) = true := decide_eq_true (by omega)
          have hq : (∀ y, t[i]? = some y → y.2 < 3 → 1 ≤ (kids t i).length ∧ (kids t i).length ≤ 8) ↔ (x.2 < 3 → 1 ≤ (kids t i).length ∧ (kids t i).length ≤ 8) := ⟨fun h => h x hx, fun h y hy => by rw [hx] at hy; injection hy with hy; exact hy ▸ h⟩
          rw [ite_iff hq]
          simp only [ref01_Check_L2, hdi, cond_true, ref01_Kids_eq hl, getE hx, Option.bind_some]
          by_cases k1 : x.2 < 3
          · by_cases k2 : (kids t i).length < 1
            · rw [if_neg (fun h => by have := (h k1).1; omega), decide_eq_true k1, decide_eq_true (show ((kids t i).length : Int) < 1 by omega)]
              rfl
            · by_cases k3 : 8 < (kids t i).length
              · rw [if_neg (fun h => by have := (h k1).2; omega), decide_eq_true k1, decide_eq_false (show ¬ ((kids t i).length : Int) < 1 by omega), decide_eq_true (show 8 < ((kids t i).length : Int) by omega)]
                rfl
              · rw [if_pos (fun _ => ⟨by omega, by omega⟩), decide_eq_true k1, decide_eq_false (show ¬ ((kids t i).length : Int) < 1 by omega), decide_eq_false (show ¬ 8 < ((kids t i).length : Int) by omega)]
                simp [wi64_succ (show i ≤ 1000000000 by omega)]
          · rw [if_pos (fun h => absurd h k1), decide_eq_false k1]
            simp [wi64_succ (show i ≤ 1000000000 by omega)]) (by
          have hdi : decide ((t.length : Int) < (t.length : Int)) = false := decide_eq_false (by omega)
          simp only [ref01_Check_L2, hdi, cond_false]) (k := fuel) (fuel_lt (by omega))
        rw [hl2, List.range_eq_range']
        by_cases hB : ∀ i, 0 ≤ i → i < t.length → ∀ x, t[i]? = some x → x.2 < 3 → 1 ≤ (kids t i).length ∧ (kids t i).length ≤ 8
        · rw [show t.length = t.length - 0 from rfl, search_all (s := 0) (N := t.length) (Nat.zero_le _) hB, if_pos]
          · rfl
          · exact ⟨by omega, by omega, by omega, ⟨x0, hx0, h4, h5⟩, fun i x h1 hx => hA i h1 (List.getElem?_eq_some_iff.1 hx).1 x hx, fun i x hx => hB i (Nat.zero_le _) (List.getElem?_eq_some_iff.1 hx).1 x hx⟩
        · rw [show t.length = t.length - 0 from rfl, search_ex (s := 0) (N := t.length), if_neg]
          · rfl
          · intro h
            exact hB fun i _ _ x hx => h.2.2.2.2.2 i x hx
          · apply Classical.byContradiction
            intro hne
            exact hB fun i h1 h2 => Classical.byContradiction fun hn => hne ⟨i, h1, h2, hn⟩
      · rw [search_ex, if_neg]
        · rfl
        · intro h
          exact hA fun i h1 _ x hx => h.2.2.2.2.1 i x h1 hx
        · apply Classical.byContradiction
          intro hne
          exact hA fun i h1 h2 => Classical.byContradiction fun hn => hne ⟨i, h1, h2, hn⟩
    · have : ¬ ROk t := fun h => by
        obtain ⟨x, hx, _, hb⟩ := h.2.2.2.1
        rw [hx0] at hx
        injection hx with hx
        exact h5 (hx ▸ hb)
      simp [h4, h5, this]
  · have : ¬ ROk t := fun h => by
      obtain ⟨x, hx, hb, _⟩ := h.2.2.2.1
      rw [hx0] at hx
      injection hx with hx
      exact h4 (hx ▸ hb)
    simp [h4, this]

/-! ### What holds of a tree that may be -/
theorem TOk.par {t : Tree} (h : TOk t) {i : Nat} {x : Int × Int} (hx : t[i]? = some x) (hi : i ≠ 0) : 0 ≤ x.1 ∧ x.1 < i ∧ ∃ y, t[x.1.toNat]? = some y ∧ x.2 = y.2 + 1 ∧ x.2 ≤ 3 := by
  have hb : ∀ (n i : Nat) (x : Int × Int), i ≤ n → t[i]? = some x → 0 ≤ x.2 ∧ x.2 ≤ 3 := by
    intro n
    induction n with
    | zero =>
      intro i x hi hx
      have := (h.2.2.2 i x hx).1
      unfold Below1 at this
      rw [if_pos (by omega)] at this
      omega
    | succ n ih =>
      intro i x hi hx
      have := (h.2.2.2 i x hx).1
      unfold Below1 at this
      split at this
      · omega
      · obtain ⟨h1, h2, ⟨y, hy, hw⟩, h3⟩ := this
        have := ih x.1.toNat y (by omega) hy
        rw [wi64_of (by omega)] at hw
        omega
  have := (h.2.2.2 i x hx).1
  unfold Below1 at this
  rw [if_neg hi] at this
  obtain ⟨h1, h2, ⟨y, hy, hw⟩, h3⟩ := this
  have hy2 := hb _ _ y (Nat.le_refl _) hy
  rw [wi64_of (by omega)] at hw
  exact ⟨h1, h2, y, hy, hw, h3⟩
theorem TOk.root {t : Tree} (h : TOk t) {x : Int × Int} (hx : t[0]? = some x) : x.1 = -1 ∧ x.2 = 0 := by
  have := (h.2.2.2 0 x hx).1
  unfold Below1 at this
  rw [if_pos rfl] at this
  exact this
theorem TOk.lev03 {t : Tree} (h : TOk t) : ∀ {i : Nat} {x : Int × Int}, t[i]? = some x → 0 ≤ x.2 ∧ x.2 ≤ 3 ∧ (x.2 = 0 ↔ i = 0) := by
  have : ∀ (n i : Nat) (x : Int × Int), i ≤ n → t[i]? = some x → 0 ≤ x.2 ∧ x.2 ≤ 3 ∧ (x.2 = 0 ↔ i = 0) := by
    intro n
    induction n with
    | zero =>
      intro i x hi hx
      obtain rfl : i = 0 := by omega
      have := h.root hx
      omega
    | succ n ih =>
      intro i x hi hx
      by_cases h0 : i = 0
      · subst h0
        have := h.root hx
        omega
      · obtain ⟨h1, h2, y, hy, hw, h3⟩ := h.par hx h0
        have := ih x.1.toNat y (by omega) hy
        omega
  exact fun {i x} hx => this i i x (Nat.le_refl _) hx
/-! ### Above -/
def par (t : Tree) (v : Int) : Int := ((t[v.toNat]?).map (·.1)).getD (-1)
def anc (t : Tree) : Nat → Int → Int
  | 0, v => v
  | k + 1, v => anc t k (par t v)
theorem anc_succ (t : Tree) : ∀ (k : Nat) (v : Int), anc t (k + 1) v = par t (anc t k v)
  | 0, _ => rfl
  | k + 1, v => anc_succ t k (par t v)
theorem par_of {t : Tree} {v : Nat} {x : Int × Int} (hx : t[v]? = some x) : par t v = x.1 := by simp [par, hx]
theorem TOk.anc {t : Tree} (h : TOk t) : ∀ (k : Nat) {v : Nat} {x : Int × Int}, t[v]? = some x → (k : Int) ≤ x.2 → ∃ (j : Nat) (y : Int × Int), PM.anc t k v = j ∧ t[j]? = some y ∧ y.2 = x.2 - k
  | 0, v, x, hx, _ => ⟨v, x, rfl, hx, by simp⟩
  | k + 1, v, x, hx, hk => by
    have h0 : v ≠ 0 := fun e => by
      subst e
      have := (h.root hx).2
      omega
    obtain ⟨h1, h2, y, hy, hw, _⟩ := h.par hx h0
    obtain ⟨j, z, e1, e2, e3⟩ := TOk.anc h k hy (by omega)
    refine ⟨j, z, ?_, e2, by omega⟩
    show PM.anc t k (PM.par t v) = j
    rw [par_of hx, ← e1]
    congr 1
    omega

theorem topo_Up_eq {t : Tree} (h : TOk t) {v : Nat} {x : Int × Int} (hx : t[v]? = some x) {k : Nat} (hk : (k : Int) ≤ x.2) : topo_Up t v (x.2 - k) = some (anc t k v) := by
  unfold topo_Up
  have h3 := (h.lev03 hx).2.1
  have hbody : ∀ i : Nat, (i : Int) ≤ x.2 → ∃ (j : Nat) (y : Int × Int), anc t i v = j ∧ t[j]? = some y ∧ y.2 = x.2 - i := fun i hi => h.anc i hx hi
  have := loop_run (body := topo_Up_L1 t (x.2 - k)) (fun i => anc t i v) (r := .inr (anc t k v)) k (fun i hi => by
    obtain ⟨j, y, e1, e2, e3⟩ := hbody i (by omega)
    have hj : j < t.length := (List.getElem?_eq_some_iff.1 e2).1
    have hj0 : j ≠ 0 := fun e => by
      subst e
      have := (h.root e2).2
      omega
    obtain ⟨p1, p2, _⟩ := h.par e2 hj0
    rw [anc_succ, e1, par_of e2]
    simp only [topo_Up_L1, getE e2, decide_eq_true (show (0 : Int) ≤ j by omega), decide_eq_true (show (j : Int) < t.length by omega), cond_true, Option.bind_some, decide_eq_false (show ¬ y.2 = x.2 - k by omega), decide_eq_false (show ¬ (j : Int) ≤ y.1 by omega), cond_false]) (by
    obtain ⟨j, y, e1, e2, e3⟩ := hbody k hk
    have hj : j < t.length := (List.getElem?_eq_some_iff.1 e2).1
    simp only [e1]
    simp only [topo_Up_L1, getE e2, decide_eq_true (show (0 : Int) ≤ j by omega), decide_eq_true (show (j : Int) < t.length by omega), cond_true, Option.bind_some, decide_eq_true e3]) (k := fuel) (fuel_lt (by omega))
  rw [show anc t 0 (v : Int) = (v : Int) from rfl] at this
  rw [this]
  rfl

theorem ref01_Up_eq {t : Tree} (h : TOk t) : ∀ (k : Nat) {v : Nat} {x : Int × Int} (m : Nat), t[v]? = some x → (k : Int) ≤ x.2 → k < m → ref01_Up m t v (x.2 - k) = some (anc t k v) := by
  intro k
  induction k with
  | zero =>
    intro v x m hx _ hm
    obtain ⟨m, rfl⟩ : ∃ j, m = j + 1 := ⟨m - 1, by omega⟩
    have hj : v < t.length := (List.getElem?_eq_some_iff.1 hx).1
    simp only [ref01_Up, getE hx, decide_eq_false (show ¬ (v : Int) < 0 by omega), decide_eq_false (show ¬ (t.length : Int) ≤ v by omega), cond_false, Option.bind_some, decide_eq_true (show x.2 = x.2 - ((0 : Nat) : Int) by omega), cond_true]
    rfl
  | succ k ih =>
    intro v x m hx hk hm
    obtain ⟨m, rfl⟩ : ∃ j, m = j + 1 := ⟨m - 1, by omega⟩
    have hj : v < t.length := (List.getElem?_eq_some_iff.1 hx).1
    have hj0 : v ≠ 0 := fun e => by
      subst e
      have := (h.root hx).2
      omega
    obtain ⟨p1, p2, y, hy, hw, _⟩ := h.par hx hj0
    have := ih m hy (by omega) (by omega)
    have ex : ((x.1.toNat : Nat) : Int) = x.1 := by omega
    rw [ex, show y.2 - (k : Int) = x.2 - ((k + 1 : Nat) : Int) by omega] at this
    simp only [ref01_Up, getE hx, decide_eq_false (show ¬ (v : Int) < 0 by omega), decide_eq_false (show ¬ (t.length : Int) ≤ v by omega), cond_false, Option.bind_some, decide_eq_false (show ¬ x.2 = x.2 - ((k + 1 : Nat) : Int) by omega), decide_eq_false (show ¬ (v : Int) ≤ x.1 by omega), this]
    rw [show anc t (k + 1) (v : Int) = anc t k (par t v) from rfl, par_of hx]

/-! ### Processors -/
def nprocs (t : Tree) : Nat := (lev t 3).length
/-- A processor's vertex. -/
def vtx (t : Tree) (p : Int) : Int := ((lev t 3)[p.toNat]?).getD (-1)
def IsP (t : Tree) (p : Int) : Prop := 0 ≤ p ∧ p < nprocs t
theorem IsP.vtx {t : Tree} {p : Int} (h : IsP t p) : at_ (lev t 3) p = some (vtx t p) ∧ ∃ (v : Nat) (x : Int × Int), PM.vtx t p = v ∧ t[v]? = some x ∧ x.2 = 3 := by
  obtain ⟨y, h1, h2⟩ := at_lt_some (l := lev t 3) h.1 (by have := h.2; unfold nprocs at this; exact this)
  have hv : PM.vtx t p = y := by unfold PM.vtx; rw [h2]; rfl
  refine ⟨by rw [h1, hv], ?_⟩
  obtain ⟨i, x, e1, e2, e3⟩ := mem_pick.1 (List.mem_of_getElem? h2)
  exact ⟨i, x, by rw [hv, e1], e2, by simpa using e3⟩
open Classical in
theorem dist_proc_eq {t : Tree} (hl : t.length ≤ 1000000) (p : Int) : dist_proc t p = some (if TOk t ∧ IsP t p then vtx t p else -1) := by
  unfold dist_proc
  rw [topo_Check_eq hl, topo_Procs_eq hl]
  by_cases hT : TOk t
  · simp only [if_pos hT, Option.bind_some, decide_true, Bool.not_true, cond_false]
    by_cases h0 : 0 ≤ p
    · by_cases h1 : p < nprocs t
      · have hP : IsP t p := ⟨h0, h1⟩
        rw [if_pos ⟨hT, hP⟩, decide_eq_true h0, decide_eq_true (show p < ((lev t 3).length : Int) from h1)]
        simp [hP.vtx.1]
      · rw [if_neg (fun h => h1 h.2.2), decide_eq_true h0, decide_eq_false (show ¬ p < ((lev t 3).length : Int) from h1)]
        rfl
    · rw [if_neg (fun h => h0 h.2.1), decide_eq_false h0]
      rfl
  · rw [if_neg hT, if_neg (fun h => hT h.1)]
    rfl
open Classical in
theorem ref02_Procs_eq {t : Tree} (hl : t.length ≤ 1000000) : ref02_Procs t = some (if TOk t then (nprocs t : Int) else 0) := by
  unfold ref02_Procs
  rw [ref01_Check_eq hl, ref01_Of_eq hl]
  by_cases hT : TOk t
  · rw [if_pos hT, if_pos hT]; rfl
  · rw [if_neg hT, if_neg hT]; rfl

/-! ### How far -/
def farN (t : Tree) (v w : Int) : Nat := if v = w then 0 else if anc t 1 v = anc t 1 w then 1 else if anc t 2 v = anc t 2 w then 2 else 3
theorem farN_le {t : Tree} {v w : Int} : farN t v w ≤ 3 := by unfold farN; split; omega; split; omega; split <;> omega
theorem farN_ne {t : Tree} {v w : Int} {i : Nat} (h : i < farN t v w) : anc t i v ≠ anc t i w := by
  unfold farN at h
  split at h
  · omega
  · rename_i h0
    split at h
    · obtain rfl : i = 0 := by omega
      exact h0
    · rename_i h1
      split at h
      · match i, h with
        | 0, _ => exact h0
        | 1, _ => exact h1
      · rename_i h2
        match i, h with
        | 0, _ => exact h0
        | 1, _ => exact h1
        | 2, _ => exact h2
theorem farN_eq {t : Tree} (h : TOk t) {v w : Nat} {x y : Int × Int} (hx : t[v]? = some x) (hy : t[w]? = some y) (hx3 : x.2 = 3) (hy3 : y.2 = 3) : anc t (farN t v w) v = anc t (farN t v w) w := by
  unfold farN
  split
  · rename_i e; rw [e]
  · split
    · rename_i e; exact e
    · split
      · rename_i e; exact e
      · obtain ⟨i, a, e1, e2, e3⟩ := h.anc 3 hx (by omega)
        obtain ⟨j, b, k1, k2, k3⟩ := h.anc 3 hy (by omega)
        rw [e1, k1, (h.lev03 e2).2.2.1 (by omega), (h.lev03 k2).2.2.1 (by omega)]
open Classical in
noncomputable def far (t : Tree) (a b : Int) : Int := if TOk t ∧ IsP t a ∧ IsP t b then farN t (vtx t a) (vtx t b) else -1
theorem dist_Far_eq {t : Tree} (hl : t.length ≤ 1000000) (a b : Int) : dist_Far t a b = some (far t a b) := by
  unfold dist_Far
  rw [dist_proc_eq hl, dist_proc_eq hl]
  unfold far
  simp only [Option.bind_some]
  by_cases hA : TOk t ∧ IsP t a
  · obtain ⟨hT, hA⟩ := hA
    obtain ⟨_, v, x, e1, e2, e3⟩ := hA.vtx
    rw [if_pos ⟨hT, hA⟩, e1, decide_eq_false (show ¬ (v : Int) < 0 by omega)]
    by_cases hB : IsP t b
    · obtain ⟨_, w, y, k1, k2, k3⟩ := hB.vtx
      rw [if_pos ⟨hT, hB⟩, if_pos ⟨hT, hA, hB⟩, k1, decide_eq_false (show ¬ (w : Int) < 0 by omega)]
      simp only [cond_false, Option.bind_some]
      have hstep : ∀ i : Nat, i ≤ 3 → topo_Up t v (wi64 (3 - (i : Int))) = some (anc t i v) ∧ topo_Up t w (wi64 (3 - (i : Int))) = some (anc t i w) := fun i hi => by
        rw [wi64_of (by omega)]
        have q1 := topo_Up_eq hT e2 (k := i) (by omega)
        have q2 := topo_Up_eq hT k2 (k := i) (by omega)
        rw [e3] at q1
        rw [k3] at q2
        exact ⟨q1, q2⟩
      have := loop_run (body := dist_Far_L1 t v w) (fun i => (i : Int)) (r := .inr (farN t v w : Int)) (farN t v w) (fun i hi => by
        have h3 := farN_le (t := t) (v := v) (w := w)
        obtain ⟨q1, q2⟩ := hstep i (by omega)
        simp only [dist_Far_L1, q1, q2, Option.bind_some, decide_eq_false (farN_ne hi), cond_false, wi64_succ (show i ≤ 1000000000 by omega)]) (by
        obtain ⟨q1, q2⟩ := hstep _ (farN_le (t := t) (v := v) (w := w))
        simp only [dist_Far_L1, q1, q2, Option.bind_some, decide_eq_true (farN_eq hT e2 k2 e3 k3), cond_true]) (k := fuel) (by have := farN_le (t := t) (v := v) (w := w); exact fuel_lt (by omega))
      rw [show ((0 : Nat) : Int) = 0 from rfl] at this
      rw [this]
      rfl
    · rw [if_neg (fun h => hB h.2), if_neg (fun h => hB h.2.2)]
      rfl
  · have hn : ¬ (TOk t ∧ IsP t a ∧ IsP t b) := fun h => hA ⟨h.1, h.2.1⟩
    rw [if_neg hA, if_neg hn]
    rfl
/-! ### Where something stands -/
def idxI (l : List Int) (x : Int) : Int := (stopped ((List.range l.length).findSome? fun (i : Nat) => if l[i]? = some x then some (i : Int) else none)).elim (fun _ => -1) id
theorem slices_Index_eq {l : List Int} (hl : l.length ≤ 1000000) (x : Int) : slices_Index_int l x = some (idxI l x) := by
  unfold slices_Index_int
  have := loop_search0 (body := slices_Index_int_L1 l x) l.length (fun i => if l[i]? = some x then some (i : Int) else none) (fun i hi => by
    have hx := List.getElem?_eq_getElem hi
    simp only [slices_Index_int_L1, decide_eq_true (show (i : Int) < l.length by omega), cond_true, at_nat, hx, Option.bind_some]
    by_cases e : x = l[i]
    · rw [decide_eq_true e, if_pos (by rw [e])]; rfl
    · rw [decide_eq_false e, if_neg (fun h => e (by injection h with h; exact h.symm))]
      simp only [cond_false, wi64_succ (show i ≤ 1000000000 by omega)]) (by
    simp only [slices_Index_int_L1, decide_eq_false (show ¬ (l.length : Int) < l.length by omega), cond_false]) (k := fuel) (fuel_lt (by omega))
  rw [this]
  unfold idxI
  cases stopped _ <;> rfl
theorem idxI_spec {l : List Int} {x : Int} : (idxI l x = -1 ∧ x ∉ l) ∨ ∃ i : Nat, idxI l x = i ∧ i < l.length ∧ l[i]? = some x := by
  unfold idxI
  cases hf : (List.range l.length).findSome? (fun (i : Nat) => if l[i]? = some x then some (i : Int) else none) with
  | none =>
    left
    rw [List.findSome?_eq_none_iff] at hf
    refine ⟨rfl, fun hm => ?_⟩
    obtain ⟨i, hi⟩ := List.getElem?_of_mem hm
    have := hf i (List.mem_range.2 (List.getElem?_eq_some_iff.1 hi).1)
    rw [if_pos hi] at this
    cases this
  | some j =>
    right
    obtain ⟨i, hi, hq⟩ := List.exists_of_findSome?_eq_some hf
    split at hq
    · rename_i hx
      injection hq with hq
      exact ⟨i, hq.symm, List.mem_range.1 hi, hx⟩
    · cases hq
theorem idxI_mem {l : List Int} {x : Int} (h : x ∈ l) : ∃ i : Nat, idxI l x = i ∧ i < l.length ∧ l[i]? = some x := by
  rcases idxI_spec (l := l) (x := x) with ⟨_, h2⟩ | h2
  · exact absurd h h2
  · exact h2

/-- A processor's node, by its number. -/
def nodeV (t : Tree) (p : Int) : Int := idxI (lev t 1) (anc t 2 (vtx t p))
open Classical in
noncomputable def nodeOf (t : Tree) (p : Int) : Int := if TOk t ∧ IsP t p then nodeV t p else -1
theorem nodeOf_lt {t : Tree} (hT : TOk t) {p : Int} (hP : IsP t p) : ∃ k : Nat, nodeOf t p = k ∧ k < (lev t 1).length := by
  obtain ⟨_, v, x, e1, e2, e3⟩ := hP.vtx
  obtain ⟨j, y, a1, a2, a3⟩ := hT.anc 2 e2 (by omega)
  have hm : anc t 2 (vtx t p) ∈ lev t 1 := mem_pick.2 ⟨j, y, by rw [e1, a1], a2, by simp; omega⟩
  obtain ⟨i, h1, h2, _⟩ := idxI_mem hm
  exact ⟨i, by unfold nodeOf nodeV; rw [if_pos ⟨hT, hP⟩, h1], h2⟩
theorem dist_Node_eq {t : Tree} (hl : t.length ≤ 1000000) (p : Int) : dist_Node t p = some (nodeOf t p) := by
  unfold dist_Node nodeOf
  rw [dist_proc_eq hl, topo_Nodes_eq hl]
  simp only [Option.bind_some]
  by_cases h : TOk t ∧ IsP t p
  · obtain ⟨hT, hP⟩ := h
    obtain ⟨_, v, x, e1, e2, e3⟩ := hP.vtx
    rw [if_pos ⟨hT, hP⟩, if_pos ⟨hT, hP⟩]
    have := topo_Up_eq hT e2 (k := 2) (by omega)
    rw [e3] at this
    unfold nodeV
    rw [e1, decide_eq_false (show ¬ (v : Int) < 0 by omega)]
    rw [show (3 : Int) - ((2 : Nat) : Int) = 1 from rfl] at this
    simp only [cond_false, this, Option.bind_some]
    rw [slices_Index_eq (show (lev t 1).length ≤ 1000000 from Nat.le_trans pick_length hl)]
    rfl
  · rw [if_neg h, if_neg h]; rfl
theorem ref02_Node_eq {t : Tree} (hl : t.length ≤ 1000000) (p : Int) : ref02_Node t p = some (nodeOf t p) := by
  unfold ref02_Node nodeOf
  rw [ref02_Procs_eq hl, ref01_Of_eq hl, ref01_Of_eq hl]
  simp only [Option.bind_some]
  by_cases h0 : p < 0
  · have hn : ¬ (TOk t ∧ IsP t p) := fun h => by have := h.2.1; omega
    rw [decide_eq_true h0, if_neg hn]; rfl
  · rw [decide_eq_false h0]
    simp only [cond_false]
    by_cases hT : TOk t
    · rw [if_pos hT]
      by_cases hP : IsP t p
      · obtain ⟨r1, v, x, e1, e2, e3⟩ := hP.vtx
        rw [if_pos ⟨hT, hP⟩, decide_eq_false (show ¬ (nprocs t : Int) ≤ p by have := hP.2; omega)]
        have := ref01_Up_eq hT 2 fuel e2 (by omega) (fuel_lt (by omega))
        rw [e3, show (3 : Int) - ((2 : Nat) : Int) = 1 from rfl] at this
        unfold nodeV
        simp only [cond_false, Option.bind_some, r1]
        rw [e1]
        simp only [this, Option.bind_some]
        have hll : (lev t 1).length ≤ 1000000 := Nat.le_trans pick_length hl
        have hs := loop_search0 (body := ref02_Node_L1 (anc t 2 v) (lev t 1)) (lev t 1).length (fun i => if (lev t 1)[i]? = some (anc t 2 v) then some (i : Int) else none) (fun i hi => by
          have hx := List.getElem?_eq_getElem hi
          simp only [ref02_Node_L1, decide_eq_true (show (i : Int) < (lev t 1).length by omega), cond_true, at_nat, hx, Option.bind_some]
          by_cases e : (lev t 1)[i] = anc t 2 v
          · rw [decide_eq_true e, if_pos (by rw [e])]; rfl
          · rw [decide_eq_false e, if_neg (fun h => e (by injection h with h))]
            simp only [cond_false, wi64_succ (show i ≤ 1000000000 by omega)]) (by
          simp only [ref02_Node_L1, decide_eq_false (show ¬ ((lev t 1).length : Int) < (lev t 1).length by omega), cond_false]) (k := fuel) (fuel_lt (by omega))
        rw [hs]
        unfold idxI
        cases stopped _ <;> rfl
      · rw [if_neg (fun h => hP h.2), decide_eq_true (show (nprocs t : Int) ≤ p from Classical.byContradiction fun h => hP ⟨by omega, by omega⟩)]
        rfl
    · rw [if_neg hT, if_neg (fun h => hT h.1), decide_eq_true (show (0 : Int) ≤ p by omega)]
      rfl
theorem length_flatMap_le' {α : Type} (g : Nat → List α) (B : Nat) : ∀ (l : List Nat), (∀ i ∈ l, (g i).length ≤ B) → (l.flatMap g).length ≤ l.length * B := by
  intro l
  induction l with
  | nil => intro _; simp
  | cons a l ih =>
    intro h
    rw [List.flatMap_cons, List.length_append, List.length_cons, Nat.add_mul]
    have h1 := ih fun i hi => h i (by simp [hi])
    have h2 := h a (by simp)
    omega
/-! ### The others, the nearest ones first -/
/-- k further on, round and round. -/
def rot (t : Tree) (p : Int) (k : Nat) : Int := (((p.toNat + k) % nprocs t : Nat) : Int)
/-- How much further on. -/
def rk (t : Tree) (p x : Int) : Int := if p ≤ x then x - p else x - p + nprocs t
noncomputable def nearAt (t : Tree) (p : Int) (f : Nat) (k : Nat) : List Int := bif decide (far t p (rot t p k) = (f : Int)) then [rot t p k] else []
noncomputable def nearF (t : Tree) (p : Int) (f : Nat) : List Int := (List.range' 1 (nprocs t - 1)).flatMap (nearAt t p f)
noncomputable def nearL (t : Tree) (p : Int) : List Int := (List.range' 1 3).flatMap (nearF t p)
theorem nearAt_len {t : Tree} {p : Int} {f k : Nat} : (nearAt t p f k).length ≤ 1 := by unfold nearAt; cases decide (far t p (rot t p k) = (f : Int)) <;> simp
theorem nearF_len {t : Tree} {p : Int} {f : Nat} : (nearF t p f).length ≤ nprocs t := by
  have := length_flatMap_le' (nearAt t p f) 1 (List.range' 1 (nprocs t - 1)) fun j _ => nearAt_len
  rw [List.length_range'] at this
  unfold nearF
  omega
theorem nprocs_le {t : Tree} (h : TOk t) : nprocs t ≤ 32 := h.2.2.1

theorem rot_rk {t : Tree} {p : Int} (hP : IsP t p) {k : Nat} (h1 : 1 ≤ k) (h2 : k < nprocs t) : IsP t (rot t p k) ∧ rot t p k ≠ p ∧ rk t p (rot t p k) = k := by
  obtain ⟨h3, h4⟩ := hP
  obtain ⟨q, rfl⟩ : ∃ q : Nat, p = q := ⟨p.toNat, by omega⟩
  unfold rot rk IsP
  simp only [Int.toNat_natCast]
  by_cases h : q + k < nprocs t
  · rw [Nat.mod_eq_of_lt h]
    refine ⟨⟨by omega, by omega⟩, by omega, ?_⟩
    rw [if_pos (by omega)]
    omega
  · have : (q + k) % nprocs t = q + k - nprocs t := by
      rw [Nat.mod_eq_sub_mod (by omega), Nat.mod_eq_of_lt (by omega)]
    rw [this]
    refine ⟨⟨by omega, by omega⟩, by omega, ?_⟩
    rw [if_neg (by omega)]
    omega
theorem rk_rot {t : Tree} {p x : Int} (hP : IsP t p) (hX : IsP t x) (hne : x ≠ p) : ∃ k : Nat, 1 ≤ k ∧ k < nprocs t ∧ rot t p k = x ∧ rk t p x = k := by
  obtain ⟨h3, h4⟩ := hP
  obtain ⟨h5, h6⟩ := hX
  obtain ⟨q, rfl⟩ : ∃ q : Nat, p = q := ⟨p.toNat, by omega⟩
  obtain ⟨y, rfl⟩ : ∃ y : Nat, x = y := ⟨x.toNat, by omega⟩
  unfold rot rk
  simp only [Int.toNat_natCast]
  by_cases h : q ≤ y
  · refine ⟨y - q, by omega, by omega, ?_, by rw [if_pos (by omega)]; omega⟩
    rw [show q + (y - q) = y by omega, Nat.mod_eq_of_lt (by omega)]
  · refine ⟨y + nprocs t - q, by omega, by omega, ?_, by rw [if_neg (by omega)]; omega⟩
    rw [show q + (y + nprocs t - q) = y + nprocs t by omega, Nat.add_mod_right, Nat.mod_eq_of_lt (by omega)]
theorem rk_inj {t : Tree} {p x y : Int} (hX : IsP t x) (hY : IsP t y) (hP : IsP t p) (h : rk t p x = rk t p y) : x = y := by
  obtain ⟨_, _⟩ := hX
  obtain ⟨_, _⟩ := hY
  obtain ⟨_, _⟩ := hP
  unfold rk at h
  split at h <;> split at h <;> omega

theorem vtx_inj {t : Tree} {a b : Int} (hA : IsP t a) (hB : IsP t b) (h : vtx t a = vtx t b) : a = b := by
  have e1 := hA.vtx.1
  have e2 := hB.vtx.1
  rw [h] at e1
  have q1 := at_some e1
  have q2 := at_some e2
  have hs := List.pairwise_iff_getElem.1 (pick_sorted (t := t) (p := fun x => decide (x.2 = 3)))
  obtain ⟨i1, g1⟩ := List.getElem?_eq_some_iff.1 q1
  obtain ⟨i2, g2⟩ := List.getElem?_eq_some_iff.1 q2
  have h0 := hA.1
  have h1 := hB.1
  apply Classical.byContradiction
  intro hne
  by_cases hlt : a.toNat < b.toNat
  · have := hs a.toNat b.toNat i1 i2 hlt
    have e : (lev t 3)[a.toNat] = (lev t 3)[b.toNat] := g1.trans g2.symm
    unfold lev at e
    omega
  · have := hs b.toNat a.toNat i2 i1 (by omega)
    have e : (lev t 3)[a.toNat] = (lev t 3)[b.toNat] := g1.trans g2.symm
    unfold lev at e
    omega

theorem far_of {t : Tree} (hT : TOk t) {a b : Int} (hA : IsP t a) (hB : IsP t b) : far t a b = farN t (vtx t a) (vtx t b) := by
  unfold far; rw [if_pos ⟨hT, hA, hB⟩]
theorem far_pos {t : Tree} (hT : TOk t) {a b : Int} (hA : IsP t a) (hB : IsP t b) (hne : a ≠ b) : 1 ≤ far t a b ∧ far t a b ≤ 3 := by
  rw [far_of hT hA hB]
  have := farN_le (t := t) (v := vtx t a) (w := vtx t b)
  refine ⟨?_, by omega⟩
  unfold farN
  rw [if_neg (fun h => hne (vtx_inj hA hB h))]
  split
  · omega
  · split <;> omega

/-- x is ahead of y. -/
def lk (t : Tree) (p x y : Int) : Prop := far t p x < far t p y ∨ (far t p x = far t p y ∧ rk t p x < rk t p y)
theorem mem_nearAt {t : Tree} {p x : Int} {f k : Nat} : x ∈ nearAt t p f k ↔ x = rot t p k ∧ far t p x = f := by
  unfold nearAt
  cases h : decide (far t p (rot t p k) = (f : Int)) with
  | true =>
    have := of_decide_eq_true h
    simp only [cond_true, List.mem_singleton]
    exact ⟨fun e => ⟨e, e ▸ this⟩, fun e => e.1⟩
  | false =>
    have := of_decide_eq_false h
    simp only [cond_false, List.not_mem_nil, false_iff]
    rintro ⟨rfl, e⟩
    exact this e
theorem mem_nearF {t : Tree} {p x : Int} {f : Nat} : x ∈ nearF t p f ↔ far t p x = f ∧ ∃ k, 1 ≤ k ∧ k < nprocs t ∧ x = rot t p k := by
  unfold nearF
  simp only [List.mem_flatMap, List.mem_range'_1, mem_nearAt]
  constructor
  · rintro ⟨k, h1, h2, h3⟩; exact ⟨h3, k, h1.1, by omega, h2⟩
  · rintro ⟨h3, k, h1, h2, h4⟩; exact ⟨k, ⟨h1, by omega⟩, h4, h3⟩
theorem mem_nearL {t : Tree} (hT : TOk t) {p x : Int} (hP : IsP t p) : x ∈ nearL t p ↔ IsP t x ∧ x ≠ p := by
  unfold nearL
  simp only [List.mem_flatMap, List.mem_range'_1, mem_nearF]
  constructor
  · rintro ⟨f, _, _, k, h1, h2, rfl⟩
    exact ⟨(rot_rk hP h1 h2).1, (rot_rk hP h1 h2).2.1⟩
  · rintro ⟨hX, hne⟩
    obtain ⟨k, h1, h2, h3, _⟩ := rk_rot hP hX hne
    obtain ⟨f1, f2⟩ := far_pos hT hP hX (Ne.symm hne)
    exact ⟨(far t p x).toNat, ⟨by omega, by omega⟩, by omega, k, h1, h2, h3.symm⟩
theorem nearL_sorted {t : Tree} {p : Int} (hP : IsP t p) : (nearL t p).Pairwise (lk t p) := by
  unfold nearL
  rw [List.pairwise_flatMap]
  refine ⟨fun f _ => ?_, ?_⟩
  · unfold nearF
    rw [List.pairwise_flatMap]
    refine ⟨fun k _ => ?_, ?_⟩
    · have := nearAt_len (t := t) (p := p) (f := f) (k := k)
      match hl : nearAt t p f k, this with
      | [], _ => exact .nil
      | [a], _ => exact List.pairwise_singleton _ _
    · refine List.Pairwise.imp_of_mem ?_ List.pairwise_lt_range'
      intro a b ha hb hab x hx y hy
      rw [List.mem_range'_1] at ha hb
      obtain ⟨rfl, h1⟩ := mem_nearAt.1 hx
      obtain ⟨rfl, h2⟩ := mem_nearAt.1 hy
      right
      rw [(rot_rk hP ha.1 (by omega)).2.2, (rot_rk hP hb.1 (by omega)).2.2]
      omega
  · refine List.Pairwise.imp ?_ List.pairwise_lt_range'
    intro a b hab x hx y hy
    have h1 := (mem_nearF.1 hx).1
    have h2 := (mem_nearF.1 hy).1
    left
    omega

/-! ### The program's way: it sorts -/
def cmpI (x y : Int) : Int := if x < y then -1 else if y < x then 1 else 0
theorem cmp_Compare_eq (x y : Int) : cmp_Compare_int x y = some (cmpI x y) := by
  unfold cmp_Compare_int cmp_isNaN_int cmpI
  simp only [decide_true, Bool.not_true, Option.bind_some, cond_false]
  by_cases h1 : x < y
  · rw [decide_eq_true h1, if_pos h1]; rfl
  · rw [decide_eq_false h1, if_neg h1]
    by_cases h2 : y < x
    · rw [decide_eq_true h2, if_pos h2]; rfl
    · rw [decide_eq_false h2, if_neg h2]; rfl
theorem cmp_Or_eq2 (x y : Int) : cmp_Or_int [x, y] = some (if x ≠ 0 then x else y) := by
  unfold cmp_Or_int
  have h0 : ∀ (k : Nat) (z : Int), [x, y][k]? = some z → (k : Int) < (([x, y] : List Int).length : Int) → cmp_Or_int_L1 [x, y] (k : Int) = some (bif decide (z = 0) then .inl (wi64 ((k : Int) + 1)) else .inr (.inr z)) := fun k z hz hk => by
    simp only [cmp_Or_int_L1, decide_eq_true hk, cond_true, at_nat, hz, Option.bind_some]
    cases decide (z = 0) <;> rfl
  by_cases hx : x = 0
  · by_cases hy : y = 0
    · subst hx hy
      have := loop_run (body := cmp_Or_int_L1 [0, 0]) (fun i => (i : Int)) (r := .inl ()) 2 (fun i hi => by
        match i, hi with
        | 0, _ => exact (h0 0 0 rfl (by simp)).trans rfl
        | 1, _ => exact (h0 1 0 rfl (by simp)).trans rfl) (by simp [cmp_Or_int_L1]) (k := fuel) (fuel_lt (by omega))
      rw [show ((0 : Nat) : Int) = 0 from rfl] at this
      rw [this]
      simp
    · subst hx
      have := loop_run (body := cmp_Or_int_L1 [0, y]) (fun i => (i : Int)) (r := .inr y) 1 (fun i hi => by
        match i, hi with
        | 0, _ => exact (h0 0 0 rfl (by simp)).trans rfl) (by
        have := h0 1 y rfl (by simp)
        rw [decide_eq_false hy] at this
        exact this) (k := fuel) (fuel_lt (by omega))
      rw [show ((0 : Nat) : Int) = 0 from rfl] at this
      rw [this]
      simp
  · have := loop_run (body := cmp_Or_int_L1 [x, y]) (fun i => (i : Int)) (r := .inr x) 0 (fun i hi => by omega) (by
      have := h0 0 x rfl (by simp)
      rw [decide_eq_false hx] at this
      exact this) (k := fuel) (fuel_lt (by omega))
    rw [show ((0 : Nat) : Int) = 0 from rfl] at this
    rw [this]
    simp [hx]

theorem rk_mod {t : Tree} (hT : TOk t) {p x : Int} (hP : IsP t p) (hX : IsP t x) : (wi64 (wi64 (x - p) + nprocs t)).tmod (nprocs t : Int) = rk t p x := by
  have h32 := nprocs_le hT
  obtain ⟨h3, h4⟩ := hP
  obtain ⟨h5, h6⟩ := hX
  rw [wi64_of (show -9223372036854775808 ≤ x - p ∧ x - p ≤ 9223372036854775807 by omega), wi64_of (by omega)]
  unfold rk
  by_cases h : p ≤ x
  · rw [if_pos h, Int.tmod_eq_emod_of_nonneg (by omega), show x - p + (nprocs t : Int) = x - p + (nprocs t : Int) * 1 by omega, Int.add_mul_emod_self_left, Int.emod_eq_of_lt (by omega) (by omega)]
  · rw [if_neg h, Int.tmod_eq_emod_of_nonneg (by omega), Int.emod_eq_of_lt (by omega) (by omega)]

/-- The comparison. -/
def cmpN (t : Tree) (p : Int) (x y : Int) : Option Int := dist_Near_1 x y t p (nprocs t : Int)
theorem cmpN_lt {t : Tree} (hT : TOk t) {p x y : Int} (hP : IsP t p) (hX : IsP t x) (hY : IsP t y) : (∃ c, cmpN t p x y = some c) ∧ (ltO (cmpN t p) x y = true ↔ lk t p x y) := by
  have hl : t.length ≤ 1000000 := by have := hT.2.1; omega
  have hn : ((nprocs t : Int)) ≠ 0 := by have := hP.1; have := hP.2; omega
  have e : cmpN t p x y = some (if cmpI (far t p x) (far t p y) ≠ 0 then cmpI (far t p x) (far t p y) else cmpI (rk t p x) (rk t p y)) := by
    unfold cmpN dist_Near_1
    rw [dist_Far_eq hl, dist_Far_eq hl]
    simp only [Option.bind_some, cmp_Compare_eq, need_true hn, rk_mod hT hP hX, rk_mod hT hP hY, cmp_Or_eq2]
  refine ⟨⟨_, e⟩, ?_⟩
  unfold ltO
  rw [e]
  simp only [decide_eq_true_eq, lk]
  rcases Int.lt_trichotomy (far t p x) (far t p y) with h | h | h
  · have e1 : cmpI (far t p x) (far t p y) = -1 := by unfold cmpI; rw [if_pos h]
    rw [e1, if_pos (by omega)]
    exact ⟨fun _ => .inl h, fun _ => by omega⟩
  · have e1 : cmpI (far t p x) (far t p y) = 0 := by unfold cmpI; rw [if_neg (by omega), if_neg (by omega)]
    rw [e1, if_neg (by omega)]
    unfold cmpI
    by_cases h1 : rk t p x < rk t p y
    · rw [if_pos h1]; exact ⟨fun _ => .inr ⟨h, h1⟩, fun _ => by omega⟩
    · rw [if_neg h1]
      constructor
      · intro h2; split at h2 <;> omega
      · intro h2; omega
  · have e1 : cmpI (far t p x) (far t p y) = 1 := by unfold cmpI; rw [if_neg (by omega), if_pos h]
    rw [e1, if_pos (by omega)]
    constructor
    · intro h2; omega
    · intro h2; omega

/-- All others, as the numbers come. -/
def othersAt (p : Int) (k : Nat) : List Int := bif decide ((k : Int) = p) then [] else [(k : Int)]
def others (t : Tree) (p : Int) : List Int := (List.range (nprocs t)).flatMap (othersAt p)
theorem mem_othersAt {p x : Int} {k : Nat} : x ∈ othersAt p k ↔ x = k ∧ x ≠ p := by
  unfold othersAt
  cases h : decide ((k : Int) = p) with
  | true =>
    have := of_decide_eq_true h
    simp only [cond_true, List.not_mem_nil, false_iff]
    rintro ⟨rfl, e⟩; exact e this
  | false =>
    have := of_decide_eq_false h
    simp only [cond_false, List.mem_singleton]
    exact ⟨fun e => ⟨e, e ▸ this⟩, fun e => e.1⟩
theorem mem_others {t : Tree} {p x : Int} : x ∈ others t p ↔ IsP t x ∧ x ≠ p := by
  unfold others IsP
  simp only [List.mem_flatMap, List.mem_range, mem_othersAt]
  constructor
  · rintro ⟨k, h1, rfl, h2⟩; exact ⟨⟨by omega, by omega⟩, h2⟩
  · rintro ⟨⟨h1, h2⟩, h3⟩; exact ⟨x.toNat, by omega, by omega, h3⟩
theorem othersAt_len {p : Int} {k : Nat} : (othersAt p k).length ≤ 1 := by unfold othersAt; cases decide ((k : Int) = p) <;> simp
theorem others_nodup {t : Tree} {p : Int} : (others t p).Nodup := by
  unfold others
  unfold List.Nodup
  rw [List.pairwise_flatMap]
  refine ⟨fun k _ => ?_, List.Pairwise.imp ?_ List.pairwise_lt_range⟩
  · have := othersAt_len (p := p) (k := k)
    match hl : othersAt p k, this with
    | [], _ => exact .nil
    | [a], _ => exact List.pairwise_singleton _ _
  · intro a b hab x hx y hy
    have := (mem_othersAt.1 hx).1
    have := (mem_othersAt.1 hy).1
    omega
theorem nearL_nodup {t : Tree} {p : Int} (hP : IsP t p) : (nearL t p).Nodup := (nearL_sorted hP).imp fun {a b} h e => by
  subst e
  unfold lk at h
  omega
theorem cmpOk_others {t : Tree} (hT : TOk t) {p : Int} (hP : IsP t p) : CmpOk (others t p) (cmpN t p) := by
  have hm : ∀ x ∈ others t p, IsP t x := fun x hx => (mem_others.1 hx).1
  have hlt : ∀ x ∈ others t p, ∀ y ∈ others t p, (ltO (cmpN t p) x y = true ↔ lk t p x y) := fun x hx y hy => (cmpN_lt hT hP (hm x hx) (hm y hy)).2
  have hlf : ∀ x ∈ others t p, ∀ y ∈ others t p, (ltO (cmpN t p) x y = false ↔ ¬ lk t p x y) := fun x hx y hy => by
    rw [← hlt x hx y hy]; simp
  refine ⟨fun x hx y hy => (cmpN_lt hT hP (hm x hx) (hm y hy)).1, fun x hx => ?_, fun x hx y hy z hz a b => ?_, fun x hx y hy z hz a b => ?_, fun x hx y hy a b => ?_⟩
  · rw [hlf x hx x hx]; unfold lk; omega
  · rw [hlt x hx y hy] at a
    rw [hlt y hy z hz] at b
    rw [hlt x hx z hz]
    unfold lk at *; omega
  · rw [hlf x hx y hy] at a
    rw [hlf y hy z hz] at b
    rw [hlf x hx z hz]
    unfold lk at *; omega
  · rw [hlf x hx y hy] at a
    rw [hlf y hy x hx] at b
    unfold lk at a b
    exact rk_inj (hm x hx) (hm y hy) hP (by omega)
theorem sort_others {t : Tree} (hT : TOk t) {p : Int} (hP : IsP t p) : (others t p).mergeSort (fun x y => !ltO (cmpN t p) y x) = nearL t p := by
  have hm : ∀ x ∈ others t p, IsP t x := fun x hx => (mem_others.1 hx).1
  let le : Int → Int → Bool := fun x y => !(open Classical in decide (lk t p y x))
  have hle : ∀ x y, le x y = true ↔ ¬ lk t p y x := fun x y => by simp [le]
  have e1 : (others t p).mergeSort (fun x y => !ltO (cmpN t p) y x) = (others t p).mergeSort le := by
    have := List.map_mergeSort (r := fun x y => !ltO (cmpN t p) y x) (s := le) (f := fun x : Int => x) (l := others t p) (fun a ha b hb => by
      have h1 := (cmpN_lt hT hP (hm b hb) (hm a ha)).2
      have h2 := hle a b
      cases h3 : ltO (cmpN t p) b a with
      | true =>
        have := h1.1 h3
        cases h4 : le a b with
        | true => exact absurd this (h2.1 h4)
        | false => rfl
      | false =>
        cases h4 : le a b with
        | true => rfl
        | false =>
          have : lk t p b a := Classical.byContradiction fun hn => by rw [h2.2 hn] at h4; cases h4
          rw [h1.2 this] at h3; cases h3)
    simpa using this
  rw [e1]
  have hs1 := List.pairwise_mergeSort (le := le) (fun a b c h1 h2 => by
    rw [hle] at *
    unfold lk at *; omega) (fun a b => by
    cases h1 : le a b with
    | true => rfl
    | false =>
      have : lk t p b a := Classical.byContradiction fun hn => by rw [(hle a b).2 hn] at h1; cases h1
      rw [(hle b a).2 (by unfold lk at *; omega)]
      rfl) (others t p)
  have hp1 := List.mergeSort_perm (others t p) le
  have hs2 : (nearL t p).Pairwise (fun x y => le x y = true) := (nearL_sorted hP).imp fun {a b} h => by
    rw [hle]
    unfold lk at *; omega
  have hp2 : (others t p).Perm (nearL t p) := (List.perm_ext_iff_of_nodup others_nodup (nearL_nodup hP)).2 fun a => by
    rw [mem_others, mem_nearL hT hP]
  refine List.Perm.eq_of_pairwise (le := fun x y => le x y = true) (fun a b ha hb h1 h2 => ?_) hs1 hs2 (hp1.trans hp2)
  rw [hle] at h1 h2
  have hA := hm a (hp1.subset ha)
  have hB := ((mem_nearL hT hP).1 hb).1
  unfold lk at h1 h2
  exact rk_inj hA hB hP (by omega)

open Classical in
theorem dist_Near_eq {t : Tree} (hl : t.length ≤ 1000000) (p : Int) : dist_Near t p = some (if TOk t ∧ IsP t p then nearL t p else []) := by
  unfold dist_Near
  rw [dist_proc_eq hl, topo_Procs_eq hl]
  simp only [Option.bind_some]
  by_cases h : TOk t ∧ IsP t p
  · obtain ⟨hT, hP⟩ := h
    obtain ⟨_, v, x, e1, _, _⟩ := hP.vtx
    have h32 := nprocs_le hT
    rw [if_pos ⟨hT, hP⟩, if_pos ⟨hT, hP⟩, e1, decide_eq_false (show ¬ (v : Int) < 0 by omega)]
    have := loop_collect (body := dist_Near_L1 p (lev t 3)) (nprocs t) 1 (othersAt p) (fun i _ => othersAt_len) [] (by simp; omega) (fun a i hi ha => by
      simp only [dist_Near_L1, decide_eq_true (show (i : Int) < ((lev t 3).length : Int) from by have : i < (lev t 3).length := hi; omega), cond_true, othersAt]
      cases hd : decide ((i : Int) = p) with
      | true => simp only [Bool.not_true, cond_false, cond_true, Option.bind_some, wi64_succ (show i ≤ 1000000000 by omega), List.append_nil]
      | false => simp only [Bool.not_false, cond_true, cond_false, app_of' (show a.length + [(i : Int)].length ≤ 1000000000 by simpa using ha), Option.bind_some, wi64_succ (show i ≤ 1000000000 by omega)]) (fun a => by
      simp only [dist_Near_L1, decide_eq_false (show ¬ ((nprocs t : Int)) < ((lev t 3).length : Int) from by unfold nprocs; omega), cond_false]) (k := fuel) (fuel_lt (by omega))
    simp only [cond_false]
    rw [this]
    simp only [List.nil_append, Option.bind_some]
    have hs : slices_SortFunc_int (others t p) (fun x0 x1 => dist_Near_1 x0 x1 t p ((lev t 3).length : Int)) = some (nearL t p) := by
      show sortO (others t p) (cmpN t p) = _
      unfold sortO
      have hlen : (others t p).length ≤ 1000000000 := by
        have := length_flatMap_le (othersAt p) 1 (nprocs t) (fun i _ => othersAt_len)
        unfold others
        omega
      rw [if_pos ⟨cmpOk_others hT hP, hlen⟩, sort_others hT hP]
    exact (congrArg (fun o => o.bind fun v => some v) hs)
  · rw [if_neg h, if_neg h]; rfl
open Classical in
theorem loop_all {α γ : Type} {body : Int → Option (Int ⊕ (Unit ⊕ γ))} (l : List α) (c : γ) (good : Nat → α → Prop) [inst : ∀ i x, Decidable (good i x)] (hl : l.length ≤ 100000000)
    (hb : ∀ (i : Nat) (x : α), l[i]? = some x → i < l.length → body (i : Int) = some (if good i x then .inl ((i + 1 : Nat) : Int) else .inr (.inr c))) (he : body (l.length : Int) = some (.inr (.inl ()))) :
    loopO body fuel 0 = some (if (∀ (i : Nat) (x : α), l[i]? = some x → good i x) then .inl () else .inr c) := by
  have := loop_search0 (body := body) l.length (fun i => if (∀ x, l[i]? = some x → good i x) then none else some c) (fun i hi => by
    have hx := List.getElem?_eq_getElem hi
    have hq : (∀ y, l[i]? = some y → good i y) ↔ good i l[i] := ⟨fun h => h _ hx, fun h y hy => by rw [hx] at hy; injection hy with hy; exact hy ▸ h⟩
    rw [hb i _ hx hi, ite_iff hq]
    by_cases hg : good i l[i]
    · simp only [if_pos hg]
    · simp only [if_neg hg]) he (k := fuel) (fuel_lt (by omega))
  rw [this]
  by_cases h : ∀ (i : Nat) (x : α), l[i]? = some x → good i x
  · rw [if_pos h, findSome_none (fun i _ => if_pos (h i))]
    rfl
  · rw [if_neg h, findSome_const (c := c)]
    · rfl
    · intro i j hq
      split at hq
      · cases hq
      · injection hq with hq; exact hq.symm
    · apply Classical.byContradiction
      intro hne
      apply h
      intro i x hx
      apply Classical.byContradiction
      intro hg
      exact hne ⟨i, List.mem_range.2 (List.getElem?_eq_some_iff.1 hx).1, by rw [if_neg (fun hh => hg (hh x hx))]; simp⟩

theorem range_flatMap {α β : Type} (f : α → List β) : ∀ (l : List α), (List.range l.length).flatMap (fun i => (l[i]?).elim [] f) = l.flatMap f := by
  intro l
  induction l with
  | nil => rfl
  | cons a l ih =>
    rw [List.length_cons, List.range_succ_eq_map, List.flatMap_cons, List.flatMap_cons, List.flatMap_map]
    simp only [List.getElem?_cons_zero, Option.elim_some, List.getElem?_cons_succ, Nat.succ_eq_add_one]
    rw [ih]

/-! ### In a list -/
theorem slices_Contains_eq {l : List Int} (hl : l.length ≤ 1000000) (x : Int) : slices_Contains_int l x = some (decide (x ∈ l)) := by
  unfold slices_Contains_int
  rw [slices_Index_eq hl]
  simp only [Option.bind_some]
  rcases idxI_spec (l := l) (x := x) with ⟨h1, h2⟩ | ⟨i, h1, h2, h3⟩
  · rw [h1, decide_eq_false h2]; rfl
  · rw [h1, decide_eq_true (List.mem_of_getElem? h3), decide_eq_true (by omega)]
theorem ref01_In_eq {l : List Int} (hl : l.length ≤ 1000000) (x : Int) : ref01_In l x = some (decide (x ∈ l)) := by
  unfold ref01_In
  have := loop_all (body := ref01_In_L1 l x) l true (fun _ y => y ≠ x) (by omega) (fun i y hy hi => by
    simp only [ref01_In_L1, decide_eq_true (show (i : Int) < l.length by omega), cond_true, at_nat, hy, Option.bind_some]
    by_cases e : y = x
    · rw [decide_eq_true e, if_neg (fun h => h e)]; rfl
    · rw [decide_eq_false e, if_pos e]
      simp only [cond_false, wi64_succ (show i ≤ 1000000000 by omega)]) (by
    simp only [ref01_In_L1, decide_eq_false (show ¬ (l.length : Int) < l.length by omega), cond_false])
  rw [this]
  by_cases h : x ∈ l
  · rw [if_neg (fun hh => by
      obtain ⟨i, hi⟩ := List.getElem?_of_mem h
      exact hh i x hi rfl), decide_eq_true h]
    rfl
  · rw [if_pos (fun i y hy e => h (by rw [← e]; exact List.mem_of_getElem? hy)), decide_eq_false h]
    rfl

/-! ### Rings -/
abbrev Ring := Int × List Int
def ringAll (x : Ring) : List Int := if x.1 = 0 then x.2 else x.1 :: x.2
theorem ringAll_len {x : Ring} : (ringAll x).length ≤ x.2.length + 1 := by unfold ringAll; split <;> simp
theorem ring_All_eq {n : Int} {l : List Int} (hl : l.length ≤ 1000000) : ring_All n l = some (ringAll (n, l)) := by
  unfold ring_All ringAll
  by_cases h : n = 0
  · rw [decide_eq_true h, if_pos h]
    simp only [Bool.not_true, cond_false, Option.bind_some, app_of' (show ([] : List Int).length + l.length ≤ 1000000000 by simp; omega)]
    rfl
  · rw [decide_eq_false h, if_neg h]
    simp only [Bool.not_false, cond_true, Option.bind_some, app_of' (show ([] : List Int).length + [n].length ≤ 1000000000 by simp), List.nil_append, app_of' (show [n].length + l.length ≤ 1000000000 by simp; omega)]
    rfl
theorem ref04_All_eq {n : Int} {l : List Int} (hl : l.length ≤ 1000000) : ref04_All n l = some (ringAll (n, l)) := by
  unfold ref04_All ringAll
  by_cases h : n = 0
  · rw [decide_eq_true h, if_pos h]; rfl
  · rw [decide_eq_false h, if_neg h]
    simp only [cond_false, app_of' (show [n].length + l.length ≤ 1000000000 by simp; omega), Option.bind_some]
    rfl
/-- Numbers above 0, each once. -/
def Dp (l : List Int) : Prop := ∀ (i : Nat) (g : Int), l[i]? = some g → 0 < g ∧ g ∉ l.take i
def RingMay (x : Ring) (size : Int) : Prop := Dp (ringAll x) ∧ ((x.2.length : Int) ≤ size ∨ x.2.length ≤ 2)
open Classical in
theorem dp_loop {l : List Int} (hl : l.length ≤ 1000000) {body : Int → Option (Int ⊕ (Unit ⊕ Bool))}
    (hb : ∀ (i : Nat) (g : Int), l[i]? = some g → i < l.length → body (i : Int) = some (if 0 < g ∧ g ∉ l.take i then .inl ((i + 1 : Nat) : Int) else .inr (.inr false))) (he : body (l.length : Int) = some (.inr (.inl ()))) : loopO body fuel 0 = some (if Dp l then .inl () else .inr false) :=
  loop_all l false (fun i g => 0 < g ∧ g ∉ l.take i) (by omega) hb he
theorem prog_dp {l : List Int} (hl : l.length ≤ 1000000) {i : Nat} {g : Int} (hg : l[i]? = some g) (hi : i < l.length) : ((bif decide (g ≤ 0) then some true else (take_ l (i : Int)).bind fun v21 => (slices_Contains_int v21 g).bind fun v22 => some v22 : Option Bool).bind fun v23 => bif v23 then some (.inr (.inr false)) else some (.inl (wi64 ((i : Int) + 1)))) = (some (if 0 < g ∧ g ∉ l.take i then .inl ((i + 1 : Nat) : Int) else .inr (.inr false)) : Option (Int ⊕ (Unit ⊕ Bool))) := by
  by_cases h0 : g ≤ 0
  · rw [decide_eq_true h0, if_neg (fun h => by have := h.1; omega)]; rfl
  · rw [decide_eq_false h0, take_nat (by omega)]
    simp only [cond_false, Option.bind_some]
    rw [slices_Contains_eq (by rw [List.length_take]; omega)]
    by_cases hm : g ∈ l.take i
    · rw [decide_eq_true hm, if_neg (fun h => h.2 hm)]; rfl
    · rw [decide_eq_false hm, if_pos ⟨by omega, hm⟩]
      simp only [Option.bind_some, cond_false, wi64_succ (show i ≤ 1000000000 by omega)]
theorem ref_dp {l : List Int} (hl : l.length ≤ 1000000) {i : Nat} {g : Int} (hg : l[i]? = some g) (hi : i < l.length) : ((bif decide (g < 1) then some true else (take_ l (i : Int)).bind fun v29 => (at_ l (i : Int)).bind fun v30 => (ref01_In v29 v30).bind fun v31 => some v31 : Option Bool).bind fun v32 => bif v32 then some (.inr (.inr false)) else some (.inl (wi64 ((i : Int) + 1)))) = (some (if 0 < g ∧ g ∉ l.take i then .inl ((i + 1 : Nat) : Int) else .inr (.inr false)) : Option (Int ⊕ (Unit ⊕ Bool))) := by
  by_cases h0 : g < 1
  · rw [decide_eq_true h0, if_neg (fun h => by have := h.1; omega)]; rfl
  · rw [decide_eq_false h0, take_nat (by omega), at_nat, hg]
    simp only [cond_false, Option.bind_some]
    rw [ref01_In_eq (by rw [List.length_take]; omega)]
    by_cases hm : g ∈ l.take i
    · rw [decide_eq_true hm, if_neg (fun h => h.2 hm)]; rfl
    · rw [decide_eq_false hm, if_pos ⟨by omega, hm⟩]
      simp only [Option.bind_some, cond_false, wi64_succ (show i ≤ 1000000000 by omega)]
open Classical in
theorem ring_May_eq {n : Int} {l : List Int} (hl : l.length ≤ 100000) (size : Int) : ring_May n l size = some (decide (RingMay (n, l) size)) := by
  unfold ring_May
  rw [ring_All_eq (by omega)]
  have hA : (ringAll (n, l)).length ≤ 1000000 := by have := ringAll_len (x := (n, l)); simp only at this; omega
  simp only [Option.bind_some]
  rw [dp_loop (body := ring_May_L1 (ringAll (n, l))) hA (fun i g hg hi => by
    simp only [ring_May_L1, decide_eq_true (show (i : Int) < (ringAll (n, l)).length by omega), cond_true, at_nat, hg, Option.bind_some]
    exact prog_dp hA hg hi) (by simp only [ring_May_L1, decide_eq_false (show ¬ ((ringAll (n, l)).length : Int) < (ringAll (n, l)).length by omega), cond_false])]
  unfold RingMay
  by_cases h : Dp (ringAll (n, l))
  · rw [if_pos h]
    simp only [Option.bind_some, Sum.elim_inl, h, true_and]
    congr 1
    rw [decide_eq_decide]
    split <;> omega
  · rw [if_neg h]
    simp [h]
open Classical in
theorem ref04_May_eq {n : Int} {l : List Int} (hl : l.length ≤ 100000) (size : Int) : ref04_May n l size = some (decide (RingMay (n, l) size)) := by
  unfold ref04_May
  rw [ref04_All_eq (by omega)]
  have hA : (ringAll (n, l)).length ≤ 1000000 := by have := ringAll_len (x := (n, l)); simp only at this; omega
  simp only [Option.bind_some]
  rw [dp_loop (body := ref04_May_L1 (ringAll (n, l))) hA (fun i g hg hi => by
    simp only [ref04_May_L1, decide_eq_true (show (i : Int) < (ringAll (n, l)).length by omega), cond_true]
    have := ref_dp hA hg hi
    rw [at_nat, hg] at this ⊢
    exact this) (by simp only [ref04_May_L1, decide_eq_false (show ¬ ((ringAll (n, l)).length : Int) < (ringAll (n, l)).length by omega), cond_false])]
  unfold RingMay
  by_cases h : Dp (ringAll (n, l))
  · rw [if_pos h]
    simp only [Option.bind_some, Sum.elim_inl, h, true_and]
    by_cases h1 : (l.length : Int) ≤ size
    · rw [decide_eq_true h1]; simp [h1]
    · rw [decide_eq_false h1]
      simp only [cond_false, Option.bind_some, h1, false_or]
      congr 1
      rw [decide_eq_decide]
      omega
  · rw [if_neg h]
    simp [h]

/-! ### Sets -/
def setHas (s n : Int) : Bool := decide (0 ≤ n ∧ n < 64) && s.toNat.testBit n.toNat
def hasAt (s : Int) (i : Nat) : List Int := bif setHas s i then [(i : Int)] else []
def setL (s : Int) : List Int := (List.range 64).flatMap (hasAt s)
theorem hasAt_len {s : Int} {i : Nat} : (hasAt s i).length ≤ 1 := by unfold hasAt; cases setHas s i <;> simp
theorem mem_hasAt {s n : Int} {i : Nat} : n ∈ hasAt s i ↔ n = i ∧ setHas s n = true := by
  unfold hasAt
  cases h : setHas s i with
  | true => simp only [cond_true, List.mem_singleton]; exact ⟨fun e => ⟨e, by rw [e]; exact h⟩, fun e => e.1⟩
  | false => simp only [cond_false, List.not_mem_nil, false_iff]; rintro ⟨rfl, e⟩; rw [h] at e; cases e
theorem mem_setL {s n : Int} : n ∈ setL s ↔ setHas s n = true := by
  unfold setL
  simp only [List.mem_flatMap, List.mem_range, mem_hasAt]
  constructor
  · rintro ⟨_, _, _, h⟩; exact h
  · intro h
    have h2 := h
    unfold setHas at h2
    simp only [Bool.and_eq_true, decide_eq_true_eq] at h2
    exact ⟨n.toNat, by omega, by omega, h⟩
theorem setL_sorted {s : Int} : (setL s).Pairwise (· < ·) := by
  unfold setL
  rw [List.pairwise_flatMap]
  refine ⟨fun i _ => ?_, List.Pairwise.imp ?_ List.pairwise_lt_range⟩
  · have := hasAt_len (s := s) (i := i)
    match hl : hasAt s i, this with
    | [], _ => exact .nil
    | [a], _ => exact List.pairwise_singleton _ _
  · intro a b hab x hx y hy
    have := (mem_hasAt.1 hx).1
    have := (mem_hasAt.1 hy).1
    omega
theorem and_pow (a k : Nat) : a &&& 2 ^ k = (a.testBit k).toNat * 2 ^ k := by
  apply Nat.eq_of_testBit_eq
  intro i
  rw [Nat.testBit_and, Nat.testBit_two_pow]
  by_cases h : k = i
  · subst h
    cases ht : a.testBit k with
    | true => simp
    | false => simp
  · cases ht : a.testBit k with
    | true => simp [h, Nat.testBit_two_pow]
    | false => simp [h]
theorem bit_and {s : Int} (hs : Iu64 s) {n : Int} (h0 : 0 ≤ n) (h1 : n < 64) : decide (bitsAnd .u64 s (shlK .u64 1 n) = 0) = !s.toNat.testBit n.toNat := by
  obtain ⟨a, rfl⟩ : ∃ a : Nat, s = a := ⟨s.toNat, by have := hs.1; omega⟩
  obtain ⟨k, rfl⟩ : ∃ k : Nat, n = k := ⟨n.toNat, by omega⟩
  have ha : a < 2 ^ 64 := by have := hs.2; omega
  have hk : k < 64 := by omega
  have hsh : shlK .u64 1 (k : Int) = ((2 ^ k : Nat) : Int) := by
    unfold shlK
    rw [show IntKind.bits .u64 = 64 from rfl, Int.toNat_natCast, Nat.min_eq_left (by omega), Int.one_mul]
    have h2 : (2 : Nat) ^ k < 2 ^ 64 := Nat.pow_lt_pow_right (by omega) hk
    rw [IntKind.wrap_u64]
    have : ((2 : Int) ^ k) = ((2 ^ k : Nat) : Int) := by simp
    rw [this]
    generalize (2 : Nat) ^ k = m at h2
    omega
  rw [hsh]
  unfold bitsAnd
  rw [show IntKind.bits .u64 = 64 from rfl]
  have e1 : BitVec.ofInt 64 (a : Int) = BitVec.ofNat 64 a := by simp
  have e2 : BitVec.ofInt 64 ((2 ^ k : Nat) : Int) = BitVec.ofNat 64 (2 ^ k) := BitVec.ofInt_natCast ..
  rw [e1, e2, BitVec.toNat_and, BitVec.toNat_ofNat, BitVec.toNat_ofNat, Nat.mod_eq_of_lt ha, Nat.mod_eq_of_lt (Nat.pow_lt_pow_right (by omega) hk), and_pow]
  have hlt : (2 : Nat) ^ k < 2 ^ 64 := Nat.pow_lt_pow_right (by omega) hk
  have hpos : 0 < (2 : Nat) ^ k := Nat.two_pow_pos k
  generalize (2 : Nat) ^ k = m at hlt hpos
  simp only [Int.toNat_natCast]
  cases ht : a.testBit k with
  | true =>
    simp only [Bool.toNat_true, Nat.one_mul, Bool.not_true, decide_eq_false_iff_not]
    rw [IntKind.wrap_u64]
    omega
  | false =>
    simp only [Bool.toNat_false, Nat.zero_mul, Bool.not_false, decide_eq_true_eq]
    rfl
theorem bits_Set_Has_eq {s : Int} (hs : Iu64 s) (n : Int) : bits_Set_Has s n = some (setHas s n) := by
  unfold bits_Set_Has bits_bit setHas
  by_cases h0 : n < 0
  · rw [decide_eq_true h0, decide_eq_false (show ¬ (0 ≤ n ∧ n < 64) by omega)]
    simp only [cond_true, Option.bind_some, Bool.false_and]
    have : bitsAnd .u64 s 0 = 0 := by unfold bitsAnd; simp; rfl
    rw [this]; rfl
  · rw [decide_eq_false h0]
    by_cases h1 : 64 ≤ n
    · rw [decide_eq_true h1, decide_eq_false (show ¬ (0 ≤ n ∧ n < 64) by omega)]
      simp only [cond_true, cond_false, Option.bind_some, Bool.false_and]
      have : bitsAnd .u64 s 0 = 0 := by unfold bitsAnd; simp; rfl
      rw [this]; rfl
    · rw [decide_eq_false h1, decide_eq_true (show (0 ≤ n ∧ n < 64) by omega)]
      simp only [cond_false, Option.bind_some, need_true (show 0 ≤ n by omega), bit_and hs (show 0 ≤ n by omega) (show n < 64 by omega), Bool.not_not, Bool.true_and]
theorem bits_Set_All_eq {s : Int} (hs : Iu64 s) : bits_Set_All s = some (setL s) := by
  unfold bits_Set_All
  have := loop_collect (body := bits_Set_All_L1 s) 64 1 (hasAt s) (fun i _ => hasAt_len) [] (by simp) (fun a i hi ha => by
    simp only [bits_Set_All_L1, decide_eq_true (show (i : Int) < 64 by omega), cond_true, bits_Set_Has_eq hs, Option.bind_some, hasAt]
    cases setHas s i with
    | true => simp only [cond_true, app_of' (show a.length + [(i : Int)].length ≤ 1000000000 by simpa using ha), Option.bind_some, wi64_succ (show i ≤ 1000000000 by omega)]
    | false => simp only [cond_false, Option.bind_some, wi64_succ (show i ≤ 1000000000 by omega), List.append_nil]) (fun a => by
    simp [bits_Set_All_L1]) (k := fuel) (fuel_lt (by omega))
  rw [this]
  simp [setL]
theorem ref06_All_eq {s : Int} (hs : Iu64 s) : ref06_All s = some (setL s) := by
  unfold ref06_All
  obtain ⟨a, rfl⟩ : ∃ a : Nat, s = a := ⟨s.toNat, by have := hs.1; omega⟩
  have ha : a ≤ 18446744073709551615 := by have := hs.2; omega
  have := loop_run (body := ref06_All_L1) (fun i => (((a / 2 ^ i : Nat) : Int), (List.range i).flatMap (hasAt (a : Int)), (i : Int))) (r := setL (a : Int)) 64 (fun i hi => by
    have hlen := length_flatMap_le (hasAt (a : Int)) 1 i (fun _ _ => hasAt_len)
    have hdiv : a / 2 ^ i ≤ a := Nat.div_le_self _ _
    have hw : wu64 (((a / 2 ^ i : Nat) : Int).tdiv 2) = ((a / 2 ^ (i + 1) : Nat) : Int) := by
      have e : (((a / 2 ^ i : Nat) : Int).tdiv 2) = ((a / 2 ^ i / 2 : Nat) : Int) := rfl
      rw [e, Nat.div_div_eq_div_mul, ← Nat.pow_succ]
      have : a / 2 ^ (i + 1) ≤ a := Nat.div_le_self _ _
      show IntKind.wrap .u64 _ = _
      rw [IntKind.wrap_u64, Nat.succ_eq_add_one]
      generalize a / 2 ^ (i + 1) = m at this
      omega
    have hm : decide ((((a / 2 ^ i : Nat) : Int).tmod 2) = 1) = a.testBit i := by
      have e : (((a / 2 ^ i : Nat) : Int).tmod 2) = ((a / 2 ^ i % 2 : Nat) : Int) := rfl
      rw [e, Nat.testBit_eq_decide_div_mod_eq, decide_eq_decide]
      omega
    have hh : setHas (a : Int) (i : Int) = a.testBit i := by
      unfold setHas
      rw [decide_eq_true (by omega)]
      simp
    simp only [ref06_All_L1, decide_eq_true (show (i : Int) < 64 by omega), cond_true, hm, hw]
    rw [List.range_succ, List.flatMap_append]
    simp only [List.flatMap_cons, List.flatMap_nil, List.append_nil, hasAt, hh]
    cases a.testBit i with
    | true => simp only [cond_true, app_of' (show ((List.range i).flatMap (hasAt (a : Int))).length + [(i : Int)].length ≤ 1000000000 by simp only [List.length_singleton]; omega), Option.bind_some, wi64_succ (show i ≤ 1000000000 by omega)]
    | false => simp only [cond_false, Option.bind_some, wi64_succ (show i ≤ 1000000000 by omega), List.append_nil]) (by
    simp [ref06_All_L1, setL]) (k := fuel) (fuel_lt (by omega))
  have e : (((a / 2 ^ 0 : Nat) : Int), (List.range 0).flatMap (hasAt (a : Int)), ((0 : Nat) : Int)) = ((a : Int), ([] : List Int), (0 : Int)) := by simp
  rw [e] at this
  rw [this]
  rfl
def SmP (rings : List Ring) (shared : List (List Int)) : Prop := rings.length ≤ 1000 ∧ (∀ x ∈ rings, x.2.length ≤ 1000) ∧ shared.length ≤ 1000 ∧ ∀ l ∈ shared, l.length ≤ 100000
def allL (rings : List Ring) (shared : List (List Int)) : List Int := rings.flatMap ringAll ++ shared.flatMap id
theorem allL_parts {rings : List Ring} {shared : List (List Int)} (h : SmP rings shared) : (rings.flatMap ringAll).length ≤ 1001000 ∧ (shared.flatMap id).length ≤ 100000000 := by
  have g1 := length_flatMap_le' (fun i => (rings[i]?).elim [] ringAll) 1001 (List.range rings.length) (fun i hi => by
    have hx := List.getElem?_eq_getElem (List.mem_range.1 hi)
    rw [hx]
    have := h.2.1 _ (List.getElem_mem (List.mem_range.1 hi))
    have h2 := ringAll_len (x := rings[i]'(List.mem_range.1 hi))
    simp only [Option.elim_some]
    omega)
  have g2 := length_flatMap_le' (fun i => (shared[i]?).elim [] id) 100000 (List.range shared.length) (fun i hi => by
    have hx := List.getElem?_eq_getElem (List.mem_range.1 hi)
    rw [hx]
    exact h.2.2.2 _ (List.getElem_mem (List.mem_range.1 hi)))
  rw [range_flatMap, List.length_range] at g1 g2
  have := Nat.mul_le_mul_right 1001 h.1
  have := Nat.mul_le_mul_right 100000 h.2.2.1
  omega
theorem all_loops {rings : List Ring} {shared : List (List Int)} (h : SmP rings shared) {b1 b2 : (List Int × Int) → Option ((List Int × Int) ⊕ List Int)}
    (h1 : ∀ (a : List Int) (i : Nat) (x : Ring), rings[i]? = some x → i < rings.length → x.2.length ≤ 1000 → a.length + 1001 ≤ 1000000000 → b1 (a, (i : Int)) = some (.inl (a ++ ringAll x, ((i + 1 : Nat) : Int)))) (e1 : ∀ a, b1 (a, (rings.length : Int)) = some (.inr a))
    (h2 : ∀ (a : List Int) (i : Nat) (x : List Int), shared[i]? = some x → i < shared.length → a.length + x.length ≤ 1000000000 → b2 (a, (i : Int)) = some (.inl (a ++ x, ((i + 1 : Nat) : Int)))) (e2 : ∀ a, b2 (a, (shared.length : Int)) = some (.inr a)) :
    ((loopO b1 fuel ([], 0)).bind fun v => (loopO b2 fuel (v, 0)).bind fun w => some w) = some (allL rings shared) := by
  have q1 := loop_collect (body := b1) rings.length 1001 (fun i => (rings[i]?).elim [] ringAll) (fun i hi => by
    have hx := List.getElem?_eq_getElem hi
    rw [hx]
    have := h.2.1 _ (List.getElem_mem hi)
    have h2 := ringAll_len (x := rings[i])
    simp only [Option.elim_some]
    omega) [] (by have := Nat.mul_le_mul_right 1001 h.1; simp; omega) (fun a i hi ha => by
    have hx := List.getElem?_eq_getElem hi
    rw [h1 a i _ hx hi (h.2.1 _ (List.getElem_mem hi)) ha, hx]
    rfl) e1 (k := fuel) (fuel_lt (by have := h.1; omega))
  rw [range_flatMap, List.nil_append] at q1
  rw [q1]
  have q2 := loop_collect (body := b2) shared.length 100000 (fun i => (shared[i]?).elim [] id) (fun i hi => by
    have hx := List.getElem?_eq_getElem hi
    rw [hx]
    exact h.2.2.2 _ (List.getElem_mem hi)) (rings.flatMap ringAll) (by have := Nat.mul_le_mul_right 100000 h.2.2.1; have := (allL_parts h).1; omega) (fun a i hi ha => by
    have hx := List.getElem?_eq_getElem hi
    rw [h2 a i _ hx hi (by have := h.2.2.2 _ (List.getElem_mem hi); omega), hx]
    rfl) e2 (k := fuel) (fuel_lt (by have := h.2.2.1; omega))
  rw [range_flatMap] at q2
  simp only [Option.bind_some]
  rw [q2]
  rfl
theorem runs_All_eq {rings : List Ring} {shared : List (List Int)} (h : SmP rings shared) (t : Tree) (size on : Int) : runs_All t size rings shared on = some (allL rings shared) := by
  unfold runs_All
  refine all_loops h (fun a i x hx hi hl ha => ?_) (fun a => by simp [runs_All_L1]) (fun a i x hx hi ha => ?_) (fun a => by simp [runs_All_L2])
  · have h2 := ringAll_len (x := x)
    simp only [runs_All_L1, decide_eq_true (show (i : Int) < rings.length by omega), cond_true, at_nat, hx, Option.bind_some, ring_All_eq (show x.2.length ≤ 1000000 by omega), app_of' (show a.length + (ringAll (x.1, x.2)).length ≤ 1000000000 by show a.length + (ringAll x).length ≤ _; omega), wi64_succ (show i ≤ 1000000000 by have := h.1; omega)]
  · simp only [runs_All_L2, decide_eq_true (show (i : Int) < shared.length by omega), cond_true, at_nat, hx, Option.bind_some, app_of' ha, wi64_succ (show i ≤ 1000000000 by have := h.2.2.1; omega)]
theorem ref15_All_eq {rings : List Ring} {shared : List (List Int)} (h : SmP rings shared) (t : Tree) (size on : Int) : ref15_All t size rings shared on = some (allL rings shared) := by
  unfold ref15_All
  refine all_loops h (fun a i x hx hi hl ha => ?_) (fun a => by simp [ref15_All_L1]) (fun a i x hx hi ha => ?_) (fun a => by simp [ref15_All_L2])
  · have h2 := ringAll_len (x := x)
    simp only [ref15_All_L1, decide_eq_true (show (i : Int) < rings.length by omega), cond_true, at_nat, hx, Option.bind_some, ref04_All_eq (show x.2.length ≤ 1000000 by omega), app_of' (show a.length + (ringAll (x.1, x.2)).length ≤ 1000000000 by show a.length + (ringAll x).length ≤ _; omega), wi64_succ (show i ≤ 1000000000 by have := h.1; omega)]
  · simp only [ref15_All_L2, decide_eq_true (show (i : Int) < shared.length by omega), cond_true, at_nat, hx, Option.bind_some, app_of' ha, wi64_succ (show i ≤ 1000000000 by have := h.2.2.1; omega)]

/-! ### A predicate, over a list -/
theorem IndexFunc_eq {l : List Int} (hl : l.length ≤ 1000000) {P : Int → Option Bool} {b : Int → Bool} (hP : ∀ x ∈ l, P x = some (b x)) : slices_IndexFunc_int l P = some (if l.findIdx b < l.length then (l.findIdx b : Int) else -1) := by
  unfold slices_IndexFunc_int
  have hle := List.findIdx_le_length (p := b) (xs := l)
  have hstep : ∀ (i : Nat) (hi : i < l.length), slices_IndexFunc_int_L1 l P (i : Int) = some (bif b l[i] then .inr (.inr (i : Int)) else .inl ((i + 1 : Nat) : Int)) := fun i hi => by
    simp only [slices_IndexFunc_int_L1, decide_eq_true (show (i : Int) < l.length by omega), cond_true, at_nat, List.getElem?_eq_getElem hi, Option.bind_some, hP _ (List.getElem_mem hi)]
    cases b l[i] with
    | true => rfl
    | false => simp only [cond_false, wi64_succ (show i ≤ 1000000000 by omega)]
  by_cases h : l.findIdx b < l.length
  · have := loop_run (body := slices_IndexFunc_int_L1 l P) (fun i => (i : Int)) (r := .inr (l.findIdx b : Int)) (l.findIdx b) (fun i hi => by
      rw [hstep i (by omega)]
      have hb : b (l[i]'(by omega)) = false := by simpa using List.not_of_lt_findIdx hi
      rw [hb]; rfl) (by
      rw [hstep _ h]
      have hb : b (l[l.findIdx b]) = true := List.findIdx_getElem (w := h)
      rw [hb]; rfl) (k := fuel) (fuel_lt (by omega))
    rw [show ((0 : Nat) : Int) = 0 from rfl] at this
    rw [this, if_pos h]
    rfl
  · have hn : l.findIdx b = l.length := by omega
    have := loop_run (body := slices_IndexFunc_int_L1 l P) (fun i => (i : Int)) (r := .inl ()) l.length (fun i hi => by
      rw [hstep i hi]
      have hb : b (l[i]'hi) = false := by
        have := List.not_of_lt_findIdx (p := b) (xs := l) (i := i) (by omega)
        simpa using this
      rw [hb]; rfl) (by
      simp only [slices_IndexFunc_int_L1, decide_eq_false (show ¬ (l.length : Int) < l.length by omega), cond_false]) (k := fuel) (fuel_lt (by omega))
    rw [show ((0 : Nat) : Int) = 0 from rfl] at this
    rw [this, if_neg h]
    rfl
theorem ContainsFunc_eq {l : List Int} (hl : l.length ≤ 1000000) {P : Int → Option Bool} {b : Int → Bool} (hP : ∀ x ∈ l, P x = some (b x)) : slices_ContainsFunc_int l P = some (decide (∃ x ∈ l, b x = true)) := by
  unfold slices_ContainsFunc_int
  rw [IndexFunc_eq hl hP]
  simp only [Option.bind_some]
  congr 1
  by_cases h : ∃ x ∈ l, b x = true
  · rw [if_pos (List.findIdx_lt_length.2 h), decide_eq_true h, decide_eq_true (by omega)]
  · rw [if_neg (fun hh => h (List.findIdx_lt_length.1 hh)), decide_eq_false h]
    rfl
theorem drop_set0 {l : List Int} {q : Nat} (h : q < l.length) (v : Int) : (l.drop q).set 0 v = [v] ++ l.drop (q + 1) := by rw [List.drop_eq_getElem_cons h]; rfl
theorem DeleteFunc_eq {l : List Int} (hl : l.length ≤ 1000000) {P : Int → Option Bool} {b : Int → Bool} (hP : ∀ x ∈ l, P x = some (b x)) : slices_DeleteFunc_int l P = some (l.filter fun x => !b x) := by
  unfold slices_DeleteFunc_int
  rw [IndexFunc_eq hl hP]
  simp only [Option.bind_some]
  by_cases h : l.findIdx b < l.length
  · rw [if_pos h, decide_eq_false (show ¬ (l.findIdx b : Int) = -1 by omega)]
    simp only [cond_false]
    let F : Nat → List Int := fun j => (l.take j).filter fun x => !b x
    let s := l.findIdx b + 1
    have hFs : ∀ j, (F (j + 1)).length ≤ (F j).length + 1 := fun j => by
      simp only [F]
      rw [List.take_add_one]
      rw [List.filter_append, List.length_append]
      have : ((l[j]?.toList).filter fun x => !b x).length ≤ 1 := by
        refine Nat.le_trans (List.length_filter_le _ _) ?_
        cases l[j]? <;> simp
      omega
    have hF0 : F s = l.take (l.findIdx b) := by
      simp only [F, s]
      rw [List.take_add_one, List.filter_append, List.getElem?_eq_getElem h]
      have hb : b (l[l.findIdx b]) = true := List.findIdx_getElem (w := h)
      simp only [Option.toList_some, List.filter_cons, hb, Bool.not_true, Bool.false_eq_true, if_false, List.filter_nil, List.append_nil]
      rw [List.filter_eq_self]
      intro x hx
      obtain ⟨k, hk, rfl⟩ := List.getElem_of_mem hx
      rw [List.length_take] at hk
      rw [List.getElem_take]
      have := List.not_of_lt_findIdx (p := b) (xs := l) (i := k) (by omega)
      simpa using this
    have hlen0 : (F s).length = l.findIdx b := by rw [hF0, List.length_take]; omega
    have hlt : ∀ m, (F (s + m)).length + 1 ≤ s + m := by
      intro m
      induction m with
      | zero => simp only [Nat.add_zero, hlen0, s]; omega
      | succ m ih => have := hFs (s + m); rw [← Nat.add_assoc]; omega
    let n := l.length - s
    have hbody : ∀ m, m < n → slices_DeleteFunc_int_L1 P (F (s + m) ++ l.drop (F (s + m)).length, ((F (s + m)).length : Int), ((s + m : Nat) : Int)) = some (.inl (F (s + m + 1) ++ l.drop (F (s + m + 1)).length, ((F (s + m + 1)).length : Int), ((s + m + 1 : Nat) : Int))) := fun m hm => by
      have hj : s + m < l.length := by omega
      have hf := hlt m
      have hFl : (F (s + m)).length ≤ l.length := by omega
      have hcl : (F (s + m) ++ l.drop (F (s + m)).length).length = l.length := by rw [List.length_append, List.length_drop]; omega
      have hget : (F (s + m) ++ l.drop (F (s + m)).length)[s + m]? = some l[s + m] := by
        rw [List.getElem?_append_right (by omega), List.getElem?_drop, show (F (s + m)).length + (s + m - (F (s + m)).length) = s + m by omega]
        exact List.getElem?_eq_getElem hj
      simp only [slices_DeleteFunc_int_L1, decide_eq_true (show ((s + m : Nat) : Int) < ((F (s + m) ++ l.drop (F (s + m)).length).length : Int) by rw [hcl]; omega), cond_true, at_nat, hget, Option.bind_some, hP _ (List.getElem_mem hj)]
      have hFsucc : F (s + m + 1) = F (s + m) ++ (bif b l[s + m] then [] else [l[s + m]]) := by
        simp only [F]
        rw [List.take_add_one, List.filter_append, List.getElem?_eq_getElem hj]
        simp only [Option.toList_some, List.filter_cons, List.filter_nil]
        cases b l[s + m] <;> simp
      cases hb : b l[s + m] with
      | true =>
        rw [hb] at hFsucc
        simp only [cond_true, List.append_nil] at hFsucc
        simp only [Bool.not_true, cond_false, Option.bind_some, hFsucc]
        rw [wi64_succ (show s + m ≤ 1000000000 by omega)]
      | false =>
        rw [hb] at hFsucc
        simp only [cond_false] at hFsucc
        have hg2 : (F (s + m) ++ l.drop (F (s + m)).length)[(F (s + m)).length]? = some (l[(F (s + m)).length]'(by omega)) := by
          rw [List.getElem?_append_right (by omega), List.getElem?_drop]
          simp only [Nat.sub_self, Nat.add_zero]
          exact List.getElem?_eq_getElem (by omega)
        simp only [Bool.not_false, cond_true, hg2, Option.bind_some]
        rw [wi64_succ (show s + m ≤ 1000000000 by omega), wi64_succ (show (F (s + m)).length ≤ 1000000000 by omega), hFsucc]
        have hset : set_ (F (s + m) ++ l.drop (F (s + m)).length) ((F (s + m)).length : Int) l[s + m] = F (s + m) ++ [l[s + m]] ++ l.drop ((F (s + m)).length + 1) := by
          unfold set_
          rw [Int.toNat_natCast, List.set_append_right _ _ (by omega)]
          rw [Nat.sub_self, List.append_assoc]
          congr 1
          exact drop_set0 (by omega) _
        rw [hset]
        simp
    have := loop_run (body := slices_DeleteFunc_int_L1 P) (fun m => (F (s + m) ++ l.drop (F (s + m)).length, ((F (s + m)).length : Int), ((s + m : Nat) : Int))) (r := (F l.length ++ l.drop (F l.length).length, ((F l.length).length : Int))) n (fun m hm => hbody m hm) (by
      have hsn : s + n = l.length := by simp only [n, s]; omega
      simp only [hsn]
      have hFl : (F l.length).length ≤ l.length := by have := hlt n; rw [hsn] at this; omega
      have hcl : (F l.length ++ l.drop (F l.length).length).length = l.length := by rw [List.length_append, List.length_drop]; omega
      simp only [slices_DeleteFunc_int_L1, hcl, decide_eq_false (show ¬ ((l.length : Nat) : Int) < (l.length : Int) by omega), cond_false]) (k := fuel) (fuel_lt (by omega))
    have hst0 : (F (s + 0) ++ l.drop (F (s + 0)).length, ((F (s + 0)).length : Int), ((s + 0 : Nat) : Int)) = (l, (l.findIdx b : Int), wi64 ((l.findIdx b : Int) + 1)) := by
      rw [Nat.add_zero, hlen0, hF0, List.take_append_drop, wi64_succ (show l.findIdx b ≤ 1000000000 by omega)]
    rw [hst0] at this
    rw [this]
    have hFl : (F l.length).length ≤ l.length := by simp only [F]; exact Nat.le_trans (List.length_filter_le _ _) (by rw [List.length_take]; omega)
    have hcl : (F l.length ++ l.drop (F l.length).length).length = l.length := by rw [List.length_append, List.length_drop]; omega
    simp only [Option.bind_some]
    rw [drop_nat (by rw [hcl]; exact hFl)]
    simp only [Option.bind_some, Int.toNat_natCast]
    have hcl2 : (clear_ (F l.length ++ l.drop (F l.length).length) (F l.length).length ((F l.length ++ l.drop (F l.length).length).drop (F l.length).length).length 0).take (F l.length).length = F l.length := by
      unfold clear_
      rw [List.take_append_of_le_length (by simp), List.take_take, Nat.min_self, List.take_append_of_le_length (by omega), List.take_of_length_le (by omega)]
    rw [take_nat (by unfold clear_; simp), hcl2]
    simp only [F, List.take_length]
    rfl
  · rw [if_neg h]
    have : l.filter (fun x => !b x) = l := by
      rw [List.filter_eq_self]
      intro x hx
      cases hb : b x with
      | false => rfl
      | true => exact absurd (List.findIdx_lt_length.2 ⟨x, hx, hb⟩) h
    rw [this]
    rfl

/-! ### Runs that may be -/
def MayP (t : Tree) (size : Int) (rings : List Ring) (shared : List (List Int)) (on : Int) : Prop :=
  TOk t ∧ 2 ≤ size ∧ size ≤ 16 ∧ rings.length = nprocs t ∧ shared.length = (lev t 1).length ∧ on ≠ 0 ∧ (∀ p ∈ setL on, p < nprocs t) ∧
    (∀ (p : Nat) (x : Ring), rings[p]? = some x → RingMay x size ∧ (setHas on p = true ∨ ringAll x = [])) ∧ Dp (allL rings shared)
def WholeP (t : Tree) (size : Int) (rings : List Ring) (shared : List (List Int)) (on : Int) : Prop :=
  TOk t ∧ 2 ≤ size ∧ size ≤ 16 ∧ rings.length = nprocs t ∧ shared.length = (lev t 1).length ∧ on ≠ 0 ∧ (∀ p ∈ setL on, p < nprocs t)
theorem setL_len {s : Int} : (setL s).length ≤ 64 := by
  have := length_flatMap_le (hasAt s) 1 64 (fun i _ => hasAt_len)
  simpa [setL] using this
theorem dec_true {p : Prop} {inst : Decidable p} (h : p) : (some true : Option Bool) = some (@decide p inst) := by rw [decide_eq_true h]
theorem dec_false {p : Prop} {inst : Decidable p} (h : ¬ p) : (some false : Option Bool) = some (@decide p inst) := by rw [decide_eq_false h]
open Classical in
theorem runs_whole_eq {t : Tree} (hl : t.length ≤ 1000000) {on : Int} (ho : Iu64 on) (size : Int) (rings : List Ring) (shared : List (List Int)) : runs_whole t size rings shared on = some (decide (WholeP t size rings shared on)) := by
  unfold runs_whole
  rw [topo_Check_eq hl, topo_Procs_eq hl, topo_Nodes_eq hl, bits_Set_All_eq ho]
  by_cases hT : TOk t
  · rw [if_pos hT]
    simp only [Option.bind_some, decide_true, Bool.not_true, cond_false]
    by_cases h1 : size < 2
    · rw [decide_eq_true h1]; exact dec_false (fun h => by have := h.2.1; omega)
    · by_cases h2 : 16 < size
      · rw [decide_eq_false h1, decide_eq_true h2]; exact dec_false (fun h => by have := h.2.2.1; omega)
      · rw [decide_eq_false h1, decide_eq_false h2]
        simp only [cond_false, Option.bind_some]
        rw [ContainsFunc_eq (l := setL on) (b := fun x => decide (((lev t 3).length : Int) ≤ x)) (by have := setL_len (s := on); omega) (P := fun x0 => runs_whole_1 x0 ((lev t 3).length : Int)) (fun x _ => rfl)]
        simp only [Option.bind_some]
        have e3 : ((rings.length : Int) = ((lev t 3).length : Int)) ↔ rings.length = nprocs t := by unfold nprocs; omega
        have e4 : ((shared.length : Int) = ((lev t 1).length : Int)) ↔ shared.length = (lev t 1).length := by omega
        have e5 : (¬ ∃ x ∈ setL on, decide (((lev t 3).length : Int) ≤ x) = true) ↔ ∀ p ∈ setL on, p < (nprocs t : Int) := by
          unfold nprocs
          constructor
          · intro h p hp; apply Classical.byContradiction; intro hn; exact h ⟨p, hp, decide_eq_true (by omega)⟩
          · rintro h ⟨x, hx, hd⟩; have := h x hx; have := of_decide_eq_true hd; omega
        by_cases k3 : rings.length = nprocs t
        · rw [decide_eq_true (e3.2 k3)]
          by_cases k4 : shared.length = (lev t 1).length
          · rw [decide_eq_true (e4.2 k4)]
            by_cases k5 : on = 0
            · rw [decide_eq_true k5]; exact dec_false (fun h => h.2.2.2.2.2.1 k5)
            · rw [decide_eq_false k5]
              by_cases k6 : ∀ p ∈ setL on, p < (nprocs t : Int)
              · rw [decide_eq_false (e5.2 k6)]; exact dec_true ⟨hT, by omega, by omega, k3, k4, k5, k6⟩
              · rw [decide_eq_true (Classical.byContradiction fun hn => k6 (e5.1 hn))]; exact dec_false (fun h => k6 h.2.2.2.2.2.2)
          · rw [decide_eq_false (fun h => k4 (e4.1 h))]; exact dec_false (fun h => k4 h.2.2.2.2.1)
        · rw [decide_eq_false (fun h => k3 (e3.1 h))]; exact dec_false (fun h => k3 h.2.2.2.1)
  · rw [if_neg hT]; exact dec_false (fun h => hT h.1)
theorem MayP_iff {t : Tree} {size : Int} {rings : List Ring} {shared : List (List Int)} {on : Int} : MayP t size rings shared on ↔ WholeP t size rings shared on ∧ (∀ (p : Nat) (x : Ring), rings[p]? = some x → RingMay x size ∧ (setHas on p = true ∨ ringAll x = [])) ∧ Dp (allL rings shared) := by
  unfold MayP WholeP
  constructor
  · rintro ⟨a, b, c, d, e, f, g, h, i⟩; exact ⟨⟨a, b, c, d, e, f, g⟩, h, i⟩
  · rintro ⟨⟨a, b, c, d, e, f, g⟩, h, i⟩; exact ⟨a, b, c, d, e, f, g, h, i⟩
open Classical in
theorem runs_May_eq {t : Tree} (hl : t.length ≤ 1000000) {on : Int} (ho : Iu64 on) (size : Int) {rings : List Ring} {shared : List (List Int)} (hs : SmP rings shared) (hb : (allL rings shared).length ≤ 1000000) : runs_May t size rings shared on = some (decide (MayP t size rings shared on)) := by
  unfold runs_May
  rw [runs_whole_eq hl ho]
  simp only [Option.bind_some]
  by_cases hW : WholeP t size rings shared on
  · rw [decide_eq_true hW]
    simp only [Bool.not_true, cond_false]
    have h1 := loop_all (body := runs_May_L1 size rings on) rings false (fun p x => RingMay x size ∧ (setHas on p = true ∨ ringAll x = [])) (by have := hs.1; omega) (fun i x hx hi => by
      have hxl := hs.2.1 x (List.mem_of_getElem? hx)
      have hrl := hs.1
      simp only [runs_May_L1, decide_eq_true (show (i : Int) < rings.length by omega), cond_true, at_nat, hx, Option.bind_some, ring_May_eq (show x.2.length ≤ 100000 by omega)]
      by_cases k1 : RingMay x size
      · rw [show decide (RingMay (x.1, x.2) size) = true from decide_eq_true k1]
        simp only [Bool.not_true, cond_false, bits_Set_Has_eq ho, Option.bind_some]
        rcases Bool.eq_false_or_eq_true (setHas on (i : Int)) with k2 | k2
        · rw [if_pos ⟨k1, .inl k2⟩, k2]; simp only [Bool.not_true, cond_false, Option.bind_some, wi64_succ (show i ≤ 1000000000 by omega)]
        · rw [show (!setHas on (i : Int)) = true by rw [k2]; rfl]
          simp only [ cond_true, ring_All_eq (show x.2.length ≤ 1000000 by omega), Option.bind_some]
          by_cases k3 : ringAll x = []
          · rw [if_pos ⟨k1, .inr k3⟩, show ringAll (x.1, x.2) = [] from k3]
            simp [wi64_succ (show i ≤ 1000000000 by omega)]
          · rw [if_neg (fun h => by rcases h.2 with h | h; rw [k2] at h; cases h; exact k3 h), show ringAll (x.1, x.2) = ringAll x from rfl, decide_eq_true (show (0 : Int) < ((ringAll x).length : Int) by have := List.length_pos_iff.2 k3; omega)]
            rfl
      · rw [show decide (RingMay (x.1, x.2) size) = false from decide_eq_false k1, if_neg (fun h => k1 h.1)]
        rfl) (by simp [runs_May_L1])
    rw [h1]
    by_cases hR : ∀ (p : Nat) (x : Ring), rings[p]? = some x → RingMay x size ∧ (setHas on p = true ∨ ringAll x = [])
    · rw [if_pos hR]
      simp only [Option.bind_some, Sum.elim_inl, runs_All_eq hs]
      rw [dp_loop (body := runs_May_L2 (allL rings shared)) hb (fun i g hg hi => by
        simp only [runs_May_L2, decide_eq_true (show (i : Int) < (allL rings shared).length by omega), cond_true, at_nat, hg, Option.bind_some]
        rw [prog_dp hb hg hi]) (by simp [runs_May_L2])]
      by_cases hD : Dp (allL rings shared)
      · rw [if_pos hD]; exact dec_true (MayP_iff.2 ⟨hW, hR, hD⟩)
      · rw [if_neg hD]; exact dec_false (fun h => hD (MayP_iff.1 h).2.2)
    · rw [if_neg hR]; exact dec_false (fun h => hR (MayP_iff.1 h).2.1)
  · rw [decide_eq_false hW]; exact dec_false (fun h => hW (MayP_iff.1 h).1)

theorem ref15_On_eq {on : Int} (ho : Iu64 on) (t : Tree) (size : Int) (rings : List Ring) (shared : List (List Int)) (p : Int) : ref15_On t size rings shared on p = some (setHas on p) := by
  unfold ref15_On
  rw [ref06_All_eq ho]
  simp only [Option.bind_some]
  rw [ref01_In_eq (by have := setL_len (s := on); omega)]
  simp only [Option.bind_some]
  congr 1
  cases h : setHas on p with
  | true => exact decide_eq_true (mem_setL.2 h)
  | false => exact decide_eq_false (fun hm => by rw [mem_setL.1 hm] at h; cases h)

theorem last_max {l : List Int} (h : l.Pairwise (· < ·)) (hne : l ≠ []) : ∃ z, l[l.length - 1]? = some z ∧ ∀ x ∈ l, x ≤ z := by
  have hpos := List.length_pos_iff.2 hne
  refine ⟨l[l.length - 1], List.getElem?_eq_getElem (by omega), fun x hx => ?_⟩
  obtain ⟨i, hi, rfl⟩ := List.getElem_of_mem hx
  by_cases e : i = l.length - 1
  · subst e; exact Int.le_refl _
  · have := List.pairwise_iff_getElem.1 h i (l.length - 1) hi (by omega) (by omega)
    omega
theorem setL_nil {on : Int} (ho : Iu64 on) : setL on = [] ↔ on = 0 := by
  constructor
  · intro h
    obtain ⟨a, rfl⟩ : ∃ a : Nat, on = a := ⟨on.toNat, by have := ho.1; omega⟩
    have : a = 0 := by
      apply Nat.eq_of_testBit_eq
      intro i
      rw [Nat.zero_testBit]
      by_cases hi : i < 64
      · cases ht : a.testBit i with
        | false => rfl
        | true =>
          have : (i : Int) ∈ setL (a : Int) := mem_setL.2 (by unfold setHas; rw [decide_eq_true (by omega)]; simpa using ht)
          rw [h] at this
          simp at this
      · exact Nat.testBit_lt_two_pow (Nat.lt_of_lt_of_le (show a < 2 ^ 64 by have := ho.2; omega) (Nat.pow_le_pow_right (by omega) (by omega)))
    omega
  · rintro rfl
    apply Classical.byContradiction
    intro hne
    obtain ⟨x, hx⟩ := List.exists_mem_of_ne_nil _ hne
    have := mem_setL.1 hx
    unfold setHas at this
    simp at this
open Classical in
theorem ref15_May_eq {t : Tree} (hl : t.length ≤ 1000000) {on : Int} (ho : Iu64 on) (size : Int) {rings : List Ring} {shared : List (List Int)} (hs : SmP rings shared) (hb : (allL rings shared).length ≤ 1000000) : ref15_May t size rings shared on = some (decide (MayP t size rings shared on)) := by
  unfold ref15_May
  rw [ref01_Check_eq hl, ref01_Of_eq hl, ref01_Of_eq hl, ref06_All_eq ho]
  by_cases hT : TOk t
  case neg => rw [if_neg hT]; exact dec_false (fun h => hT h.1)
  rw [if_pos hT]
  simp only [Option.bind_some, decide_true, Bool.not_true, cond_false]
  by_cases h1 : size < 2
  · rw [decide_eq_true h1]; exact dec_false (fun h => by have := h.2.1; omega)
  by_cases h2 : 16 < size
  · rw [decide_eq_false h1, decide_eq_true h2]; exact dec_false (fun h => by have := h.2.2.1; omega)
  rw [decide_eq_false h1, decide_eq_false h2]
  simp only [cond_false, Option.bind_some]
  have e3 : ((rings.length : Int) = ((lev t 3).length : Int)) ↔ rings.length = nprocs t := by unfold nprocs; omega
  have e4 : ((shared.length : Int) = ((lev t 1).length : Int)) ↔ shared.length = (lev t 1).length := by omega
  by_cases k3 : rings.length = nprocs t
  case neg => rw [decide_eq_false (fun h => k3 (e3.1 h))]; exact dec_false (fun h => k3 h.2.2.2.1)
  rw [decide_eq_true (e3.2 k3)]
  by_cases k4 : shared.length = (lev t 1).length
  case neg => rw [decide_eq_false (fun h => k4 (e4.1 h))]; exact dec_false (fun h => k4 h.2.2.2.2.1)
  rw [decide_eq_true (e4.2 k4)]
  simp only [Bool.not_true, cond_false]
  by_cases k5 : setL on = []
  · rw [k5]; exact dec_false (fun h => h.2.2.2.2.2.1 ((setL_nil ho).1 k5))
  have hlen := setL_len (s := on)
  have hpos := List.length_pos_iff.2 k5
  obtain ⟨z, hz, hmax⟩ := last_max setL_sorted k5
  rw [decide_eq_false (show ¬ ((setL on).length : Int) = 0 by omega)]
  rw [wi64_of (by omega), show ((setL on).length : Int) - 1 = (((setL on).length - 1 : Nat) : Int) by omega, at_nat, hz]
  simp only [cond_false, Option.bind_some]
  by_cases k6 : (nprocs t : Int) ≤ z
  · rw [decide_eq_true (show ((lev t 3).length : Int) ≤ z from k6)]
    exact dec_false (fun h => by have := h.2.2.2.2.2.2.1 z (List.mem_of_getElem? hz); omega)
  rw [decide_eq_false (show ¬ ((lev t 3).length : Int) ≤ z from k6)]
  simp only [cond_false]
  have hW : WholeP t size rings shared on := ⟨hT, by omega, by omega, k3, k4, fun h => k5 ((setL_nil ho).2 h), fun p hp => by have := hmax p hp; omega⟩
  have h1 := loop_all (body := ref15_May_L1 t size rings shared on (lev t 3)) rings false (fun p x => RingMay x size ∧ (setHas on p = true ∨ ringAll x = [])) (by have := hs.1; omega) (fun i x hx hi => by
    have hxl := hs.2.1 x (List.mem_of_getElem? hx)
    have hrl := hs.1
    simp only [ref15_May_L1, decide_eq_true (show (i : Int) < ((lev t 3).length : Int) from by have : rings.length = (lev t 3).length := k3; omega), cond_true, at_nat, hx, Option.bind_some, ref04_May_eq (show x.2.length ≤ 100000 by omega)]
    by_cases k1 : RingMay x size
    · rw [show decide (RingMay (x.1, x.2) size) = true from decide_eq_true k1]
      simp only [Bool.not_true, cond_false, ref04_All_eq (show x.2.length ≤ 1000000 by omega), Option.bind_some]
      by_cases k3 : ringAll x = []
      · rw [if_pos ⟨k1, .inr k3⟩, show ringAll (x.1, x.2) = [] from k3]
        simp [wi64_succ (show i ≤ 1000000000 by omega)]
      · rw [show ringAll (x.1, x.2) = ringAll x from rfl, decide_eq_true (show (0 : Int) < ((ringAll x).length : Int) by have := List.length_pos_iff.2 k3; omega)]
        simp only [cond_true, ref15_On_eq ho, Option.bind_some]
        rcases Bool.eq_false_or_eq_true (setHas on (i : Int)) with k2 | k2
        · rw [if_pos ⟨k1, .inl k2⟩, k2]; simp only [Bool.not_true, cond_false, wi64_succ (show i ≤ 1000000000 by omega)]
        · rw [if_neg (fun h => by rcases h.2 with h | h; rw [k2] at h; cases h; exact k3 h), k2]; rfl
    · rw [show decide (RingMay (x.1, x.2) size) = false from decide_eq_false k1, if_neg (fun h => k1 h.1)]
      rfl) (by
    have : rings.length = (lev t 3).length := k3
    simp only [ref15_May_L1, decide_eq_false (show ¬ (rings.length : Int) < ((lev t 3).length : Int) by omega), cond_false])
  rw [h1]
  by_cases hR : ∀ (p : Nat) (x : Ring), rings[p]? = some x → RingMay x size ∧ (setHas on p = true ∨ ringAll x = [])
  · rw [if_pos hR]
    simp only [Option.bind_some, Sum.elim_inl, ref15_All_eq hs]
    rw [dp_loop (body := ref15_May_L2 (allL rings shared)) hb (fun i g hg hi => by
      simp only [ref15_May_L2, decide_eq_true (show (i : Int) < (allL rings shared).length by omega), cond_true]
      have := ref_dp hb hg hi
      rw [at_nat, hg] at this ⊢
      exact this) (by simp [ref15_May_L2])]
    by_cases hD : Dp (allL rings shared)
    · rw [if_pos hD]; exact dec_true (MayP_iff.2 ⟨hW, hR, hD⟩)
    · rw [if_neg hD]; exact dec_false (fun h => hD (MayP_iff.1 h).2.2)
  · rw [if_neg hR]; exact dec_false (fun h => hR (MayP_iff.1 h).2.1)
/-! ### Small -/
theorem set_at {α : Type} {l : List α} {i : Int} {x : α} : (set_ l i x).length = l.length := by unfold set_; simp
theorem clone_eq {α : Type} {l : List α} (h : l.length ≤ 1000000000) : app_ ([] : List α) l = some l := by rw [app_of' (by simpa using h)]; rfl
def ringAt (rings : List Ring) (q : Int) : Ring := (rings[q.toNat]?).getD (0, [])
theorem ringAt_at {rings : List Ring} {q : Int} (h0 : 0 ≤ q) (h1 : q < rings.length) : at_ rings q = some (ringAt rings q) ∧ rings[q.toNat]? = some (ringAt rings q) := by
  obtain ⟨x, e1, e2⟩ := at_lt_some (l := rings) h0 h1
  have : ringAt rings q = x := by unfold ringAt; rw [e2]; rfl
  rw [this]
  exact ⟨e1, e2⟩
def rowAt (shared : List (List Int)) (n : Int) : List Int := (shared[n.toNat]?).getD []
theorem rowAt_at {shared : List (List Int)} {n : Int} (h0 : 0 ≤ n) (h1 : n < shared.length) : at_ shared n = some (rowAt shared n) ∧ shared[n.toNat]? = some (rowAt shared n) := by
  obtain ⟨x, e1, e2⟩ := at_lt_some (l := shared) h0 h1
  have : rowAt shared n = x := by unfold rowAt; rw [e2]; rfl
  rw [this]
  exact ⟨e1, e2⟩
theorem SmP.ring {rings : List Ring} {shared : List (List Int)} (h : SmP rings shared) (q : Int) : (ringAt rings q).2.length ≤ 1000 := by
  unfold ringAt
  cases hq : rings[q.toNat]? with
  | none => simp
  | some x => exact h.2.1 x (List.mem_of_getElem? hq)
theorem SmP.row {rings : List Ring} {shared : List (List Int)} (h : SmP rings shared) (n : Int) : (rowAt shared n).length ≤ 100000 := by
  unfold rowAt
  cases hq : shared[n.toNat]? with
  | none => simp
  | some x => exact h.2.2.2 x (List.mem_of_getElem? hq)

/-! ### Who can be stolen from -/
noncomputable def keepV (t : Tree) (rings : List Ring) (p f q : Int) : Bool := !decide (ringAll (ringAt rings q) = []) && decide (far t p q ≤ f)
open Classical in
noncomputable def victL (t : Tree) (rings : List Ring) (p f : Int) : List Int := if IsP t p then (nearL t p).filter (keepV t rings p f) else []
theorem far_le3 {t : Tree} {a b : Int} : far t a b ≤ 3 := by
  unfold far
  split
  · have := farN_le (t := t) (v := vtx t a) (w := vtx t b); omega
  · omega
open Classical in
theorem steal_Victims_eq {t : Tree} (hl : t.length ≤ 1000000) {on : Int} (ho : Iu64 on) (size : Int) {rings : List Ring} {shared : List (List Int)} (hs : SmP rings shared) (hb : (allL rings shared).length ≤ 1000000) (p f : Int) :
    steal_Victims t size rings shared on p f = some (if MayP t size rings shared on then victL t rings p f else []) := by
  unfold steal_Victims
  rw [runs_May_eq hl ho size hs hb, dist_Near_eq hl]
  by_cases hM : MayP t size rings shared on
  · rw [decide_eq_true hM, if_pos hM]
    have hT := hM.1
    simp only [Option.bind_some, Bool.not_true, cond_false]
    unfold victL
    by_cases hP : IsP t p
    · rw [if_pos ⟨hT, hP⟩, if_pos hP]
      have hlen : (nearL t p).length ≤ 1000000 := by
        have := length_flatMap_le' (nearF t p) 32 (List.range' 1 3) (fun f _ => Nat.le_trans nearF_len (nprocs_le hT))
        unfold nearL
        rw [List.length_range'] at this
        omega
      have := DeleteFunc_eq hlen (P := fun x0 => steal_Victims_1 x0 t size rings shared on p f) (b := fun q => !keepV t rings p f q) (fun q hq => by
        have hQ := ((mem_nearL hT hP).1 hq).1
        have hrl : rings.length = nprocs t := hM.2.2.2.1
        obtain ⟨e1, e2⟩ := ringAt_at (rings := rings) hQ.1 (by have := hQ.2; omega)
        have hr := hs.ring q
        unfold steal_Victims_1 keepV
        rw [e1]
        simp only [Option.bind_some, ring_All_eq (show (ringAt rings q).2.length ≤ 1000000 by omega)]
        by_cases k1 : ringAll (ringAt rings q) = []
        · rw [show ringAll ((ringAt rings q).1, (ringAt rings q).2) = [] from k1]; simp [k1]
        · rw [show ringAll ((ringAt rings q).1, (ringAt rings q).2) = ringAll (ringAt rings q) from rfl, decide_eq_false k1, decide_eq_false (show ¬ ((ringAll (ringAt rings q)).length : Int) = 0 by have := List.length_pos_iff.2 k1; omega)]
          simp only [cond_false, dist_Far_eq hl, Option.bind_some, Bool.not_false, Bool.true_and]
          congr 1
          have h3 := far_le3 (t := t) (a := p) (b := q)
          by_cases k2 : far t p q ≤ f
          · rw [decide_eq_true k2]; exact decide_eq_false (by split <;> omega)
          · rw [decide_eq_false k2]; exact decide_eq_true (by split <;> omega))
      rw [this]
      simp only [Option.bind_some, Bool.not_not]
    · rw [if_neg (fun h => hP h.2), if_neg hP]
      rw [DeleteFunc_eq (l := []) (b := fun _ => true) (by simp) (fun q hq => by simp at hq)]
      rfl
  · rw [decide_eq_false hM, if_neg hM]; rfl
/-! ### Of its own -/
theorem isP_on {t : Tree} {size on : Int} {rings : List Ring} {shared : List (List Int)} (hM : MayP t size rings shared on) {p : Int} (h : setHas on p = true) : IsP t p := by
  have h1 := hM.2.2.2.2.2.2.1 p (mem_setL.2 h)
  unfold setHas at h
  simp only [Bool.and_eq_true, decide_eq_true_eq] at h
  exact ⟨h.1.1, h1⟩
abbrev R7 := Tree × Int × List Ring × List (List Int) × Int × Int × Int
def ownS (t : Tree) (size : Int) (rings : List Ring) (shared : List (List Int)) (on p : Int) : R7 :=
  if (ringAt rings p).1 ≠ 0 then (t, size, set_ rings p (0, (ringAt rings p).2), shared, on, (ringAt rings p).1, 1) else
    match (ringAt rings p).2 with
    | [] => (t, size, rings, shared, on, 0, 0)
    | g :: l => if g = 0 then (t, size, rings, shared, on, 0, 0) else (t, size, set_ rings p (0, l), shared, on, g, 2)
theorem find_own_eq (t : Tree) (size : Int) {rings : List Ring} {shared : List (List Int)} (hs : SmP rings shared) (on : Int) {p : Int} (h0 : 0 ≤ p) (h1 : p < rings.length) : find_own t size rings shared on p = some (ownS t size rings shared on p) := by
  obtain ⟨e1, e2⟩ := ringAt_at (rings := rings) h0 h1
  have hr := hs.ring p
  have hrl := hs.1
  unfold find_own ownS
  rw [e1]
  generalize hx : ringAt rings p = x at *
  obtain ⟨n, l⟩ := x
  simp only [Option.bind_some, ring_Take, slices_Clone_int, slices_Clone_ring_Ring]
  simp only at hr
  by_cases hn : n = 0
  · subst hn
    simp only [decide_true, Bool.not_true, cond_false, Option.bind_some, ne_eq, not_true_eq_false, if_false]
    cases l with
    | nil => simp
    | cons g l =>
      have hd : at_ (g :: l) 0 = some g := rfl
      have hd2 : drop_ (g :: l) 1 = some l := drop_nat (l := g :: l) (i := 1) (by simp)
      simp only [decide_eq_true (show (0 : Int) < ((g :: l).length : Int) by simp), cond_true, hd, hd2, Option.bind_some, clone_eq (show l.length ≤ 1000000000 by simp at hr; omega)]
      by_cases hg : g = 0
      · rw [decide_eq_true hg, if_pos hg]; rfl
      · rw [decide_eq_false hg, if_neg hg]
        simp only [cond_false, clone_eq (show rings.length ≤ 1000000000 by omega), Option.bind_some, e1]
  · rw [if_pos hn, decide_eq_false hn]
    simp only [Bool.not_false, cond_true, Option.bind_some, clone_eq (show l.length ≤ 1000000000 by omega), decide_eq_false hn, cond_false, clone_eq (show rings.length ≤ 1000000000 by omega), e1]
def rowS (t : Tree) (size : Int) (rings : List Ring) (shared : List (List Int)) (on n : Int) : R7 :=
  match rowAt shared n with
  | [] => (t, size, rings, shared, on, 0, 0)
  | g :: l => (t, size, rings, set_ shared n l, on, g, 3)
theorem find_row_eq (t : Tree) (size : Int) {rings : List Ring} {shared : List (List Int)} (hs : SmP rings shared) (on : Int) {n : Int} (h0 : 0 ≤ n) (h1 : n < shared.length) : find_row t size rings shared on n = some (rowS t size rings shared on n) := by
  obtain ⟨e1, e2⟩ := rowAt_at (shared := shared) h0 h1
  have hr := hs.row n
  have hrl := hs.2.2.1
  unfold find_row rowS
  rw [e1]
  generalize hx : rowAt shared n = l at *
  simp only [Option.bind_some, slices_Clone_int, slices_Clone_Lint]
  cases l with
  | nil => simp
  | cons g l =>
    have hd : at_ (g :: l) 0 = some g := rfl
    have hd2 : drop_ (g :: l) 1 = some l := drop_nat (l := g :: l) (i := 1) (by simp)
    simp only [decide_eq_false (show ¬ ((g :: l).length : Int) = 0 by simp; omega), cond_false, clone_eq (show shared.length ≤ 1000000000 by omega), hd2, Option.bind_some, clone_eq (show l.length ≤ 1000000000 by simp at hr; omega), e1, hd]
/-- Who is next, of one's own: at its turn the row comes ahead. -/
def localS (t : Tree) (size : Int) (rings : List Ring) (shared : List (List Int)) (on p n : Int) (turn : Bool) : R7 :=
  let a := bif turn then rowS t size rings shared on n else ownS t size rings shared on p
  let b := bif turn then ownS t size rings shared on p else rowS t size rings shared on n
  if a.2.2.2.2.2.1 ≠ 0 then a else if b.2.2.2.2.2.1 ≠ 0 then b else (t, size, rings, shared, on, 0, 0)
theorem two_ways {a b : F81} {A B : R7} (ha : a.run = some A) (hb : b.run = some B) : loopO (find_Local_L1 [a, b]) fuel 0 = some (if A.2.2.2.2.2.1 ≠ 0 then .inr A else if B.2.2.2.2.2.1 ≠ 0 then .inr B else .inl ()) := by
  have h0 : find_Local_L1 [a, b] 0 = some (if A.2.2.2.2.2.1 ≠ 0 then .inr (.inr A) else .inl 1) := by
    have e : at_ [a, b] 0 = some a := rfl
    simp only [find_Local_L1, decide_eq_true (show (0 : Int) < (([a, b] : List F81).length : Int) by simp), cond_true, e, Option.bind_some, ha]
    by_cases h : A.2.2.2.2.2.1 = 0
    · rw [decide_eq_true h, if_neg (fun hh => hh h)]; rfl
    · rw [decide_eq_false h, if_pos h]; rfl
  have h1 : find_Local_L1 [a, b] 1 = some (if B.2.2.2.2.2.1 ≠ 0 then .inr (.inr B) else .inl 2) := by
    have e : at_ [a, b] 1 = some b := rfl
    simp only [find_Local_L1, decide_eq_true (show (1 : Int) < (([a, b] : List F81).length : Int) by simp), cond_true, e, Option.bind_some, hb]
    by_cases h : B.2.2.2.2.2.1 = 0
    · rw [decide_eq_true h, if_neg (fun hh => hh h)]; rfl
    · rw [decide_eq_false h, if_pos h]; rfl
  have h2 : find_Local_L1 [a, b] 2 = some (.inr (.inl ())) := by simp [find_Local_L1]
  by_cases k1 : A.2.2.2.2.2.1 ≠ 0
  · rw [if_pos k1] at h0 ⊢
    exact loop_run (body := find_Local_L1 [a, b]) (fun i => (i : Int)) 0 (fun i hi => by omega) h0 (k := fuel) (fuel_lt (by omega))
  · rw [if_neg k1] at h0 ⊢
    by_cases k2 : B.2.2.2.2.2.1 ≠ 0
    · rw [if_pos k2] at h1 ⊢
      exact loop_run (body := find_Local_L1 [a, b]) (fun i => (i : Int)) 1 (fun i hi => by
        match i, hi with
        | 0, _ => exact h0) h1 (k := fuel) (fuel_lt (by omega))
    · rw [if_neg k2] at h1 ⊢
      exact loop_run (body := find_Local_L1 [a, b]) (fun i => (i : Int)) 2 (fun i hi => by
        match i, hi with
        | 0, _ => exact h0
        | 1, _ => exact h1) h2 (k := fuel) (fuel_lt (by omega))
theorem reverse_two (a b : F81) : slices_Reverse_func_runs_Runs_int_int [a, b] = some [b, a] := by
  unfold slices_Reverse_func_runs_Runs_int_int
  have e0 : wi64 ((([a, b] : List F81).length : Int) - 1) = 1 := wi64_of (by simp)
  have h0 : slices_Reverse_func_runs_Runs_int_int_L1 ([a, b], 0, 1) = some (.inl ([b, a], 1, 0)) := by
    have e1 : at_ [a, b] 1 = some b := rfl
    have e2 : at_ [a, b] 0 = some a := rfl
    have e3 : set_ [a, b] 0 b = [b, b] := rfl
    have e4 : at_ [b, b] 1 = some b := rfl
    have e5 : set_ [b, b] 1 a = [b, a] := rfl
    simp only [slices_Reverse_func_runs_Runs_int_int_L1, decide_eq_true (show (0 : Int) < 1 by omega), cond_true, e1, e2, Option.bind_some, e3, e4, e5]
    rw [wi64_of (show -9223372036854775808 ≤ (0 : Int) + 1 ∧ (0 : Int) + 1 ≤ 9223372036854775807 by omega), wi64_of (by omega)]
    rfl
  have h1 : slices_Reverse_func_runs_Runs_int_int_L1 ([b, a], 1, 0) = some (.inr [b, a]) := by simp [slices_Reverse_func_runs_Runs_int_int_L1]
  have := loop_run (body := slices_Reverse_func_runs_Runs_int_int_L1) (fun i => if i = 0 then ([a, b], 0, 1) else ([b, a], 1, 0)) (r := [b, a]) 1 (fun i hi => by
    match i, hi with
    | 0, _ => exact h0) h1 (k := fuel) (fuel_lt (by omega))
  rw [e0]
  rw [if_pos rfl] at this
  rw [this]
  rfl
open Classical in
theorem find_Local_eq {t : Tree} (hl : t.length ≤ 1000000) {on : Int} (ho : Iu64 on) (size : Int) {rings : List Ring} {shared : List (List Int)} (hs : SmP rings shared) (hb : (allL rings shared).length ≤ 1000000) (p tick : Int) :
    find_Local t size rings shared on p tick = some (if MayP t size rings shared on ∧ setHas on p = true then localS t size rings shared on p (nodeOf t p) (decide (tick.tmod 61 = 0)) else (t, size, rings, shared, on, 0, 0)) := by
  unfold find_Local
  rw [runs_May_eq hl ho size hs hb, bits_Set_Has_eq ho]
  by_cases hM : MayP t size rings shared on
  case neg => rw [decide_eq_false hM, if_neg (fun h => hM h.1)]; rfl
  rw [decide_eq_true hM]
  rcases Bool.eq_false_or_eq_true (setHas on p) with hP | hP
  case inr => rw [hP, if_neg (fun h => by cases h.2)]; rfl
  rw [hP, if_pos ⟨hM, rfl⟩]
  have hIs := isP_on hM hP
  obtain ⟨k, hk, hkl⟩ := nodeOf_lt hM.1 hIs
  have hrl : rings.length = nprocs t := hM.2.2.2.1
  have hsl : shared.length = (lev t 1).length := hM.2.2.2.2.1
  simp only [Option.bind_some, Bool.not_true, cond_false, dist_Node_eq hl, find_Turn]
  have hA : find_Local_1 t size rings shared on p = some (ownS t size rings shared on p) := by
    unfold find_Local_1
    rw [find_own_eq t size hs on hIs.1 (by have := hIs.2; omega)]
    rfl
  have hB : find_Local_2 t size rings shared on (nodeOf t p) = some (rowS t size rings shared on (nodeOf t p)) := by
    unfold find_Local_2
    rw [find_row_eq t size hs on (by rw [hk]; omega) (by rw [hk]; omega)]
    rfl
  unfold localS
  cases decide (tick.tmod 61 = 0) with
  | true =>
    simp only [cond_true]
    rw [reverse_two]
    simp only [Option.bind_some]
    rw [two_ways hB hA]
    by_cases k1 : (rowS t size rings shared on (nodeOf t p)).2.2.2.2.2.1 ≠ 0
    · rw [if_pos k1, if_pos k1]; rfl
    · rw [if_neg k1, if_neg k1]
      by_cases k2 : (ownS t size rings shared on p).2.2.2.2.2.1 ≠ 0
      · rw [if_pos k2, if_pos k2]; rfl
      · rw [if_neg k2, if_neg k2]; rfl
  | false =>
    simp only [cond_false, Option.bind_some]
    rw [two_ways hA hB]
    by_cases k1 : (ownS t size rings shared on p).2.2.2.2.2.1 ≠ 0
    · rw [if_pos k1, if_pos k1]; rfl
    · rw [if_neg k1, if_neg k1]
      by_cases k2 : (rowS t size rings shared on (nodeOf t p)).2.2.2.2.2.1 ≠ 0
      · rw [if_pos k2, if_pos k2]; rfl
      · rw [if_neg k2, if_neg k2]; rfl
/-! ### Halves -/
def halfN (l : List Int) : Nat := (l.length + 1) / 2
def halfG (x : Ring) : List Int := if x.2 = [] then (if x.1 = 0 then [] else [x.1]) else x.2.take (halfN x.2)
def halfR (x : Ring) : Ring := if x.2 = [] then (0, []) else (x.1, x.2.drop (halfN x.2))
theorem ring_Half_eq {n : Int} {l : List Int} (hl : l.length ≤ 1000) : ring_Half n l = some ((halfR (n, l)).1, (halfR (n, l)).2, halfG (n, l)) := by
  unfold ring_Half halfR halfG
  cases l with
  | nil =>
    simp only [List.length_nil, if_true]
    rw [decide_eq_false (show ¬ (0 : Int) < ((0 : Nat) : Int) by omega)]
    simp only [cond_false, ring_Take]
    by_cases hn : n = 0
    · subst hn; rfl
    · rw [decide_eq_false hn, if_neg hn]
      simp only [Bool.not_false, cond_true, slices_Clone_int, clone_eq (show ([] : List Int).length ≤ 1000000000 by simp), Option.bind_some]
      rw [decide_eq_false hn]; rfl
  | cons a l =>
    rw [if_neg (by simp), if_neg (by simp)]
    generalize hL : (a :: l) = L at hl ⊢
    have hne : 0 < L.length := by rw [← hL]; simp
    have e1 : wi64 ((wi64 ((L.length : Int) + 1)).tdiv 2) = ((halfN L : Nat) : Int) := by
      unfold halfN
      rw [wi64_of (show -9223372036854775808 ≤ (L.length : Int) + 1 ∧ (L.length : Int) + 1 ≤ 9223372036854775807 by omega)]
      have : ((L.length : Int) + 1).tdiv 2 = (((L.length + 1) / 2 : Nat) : Int) := by
        rw [show (L.length : Int) + 1 = ((L.length + 1 : Nat) : Int) by omega]; rfl
      rw [this, wi64_of (by omega)]
    have hh : halfN L ≤ L.length := by unfold halfN; omega
    rw [decide_eq_true (show (0 : Int) < (L.length : Int) by omega), e1, take_nat hh, drop_nat hh]
    simp only [cond_true, Option.bind_some, slices_Clone_int]
    rw [clone_eq (by rw [List.length_take]; omega), clone_eq (by rw [List.length_drop]; omega)]
    rfl
theorem halfG_len {x : Ring} (h : x.2.length ≤ 1000) : (halfG x).length ≤ 1000 := by
  unfold halfG
  split
  · split <;> simp
  · rw [List.length_take]; omega
theorem halfG_ne {x : Ring} (h : ringAll x ≠ []) : ∃ g l, halfG x = g :: l := by
  obtain ⟨n, l⟩ := x
  unfold ringAll at h
  unfold halfG
  cases l with
  | nil =>
    simp only at h ⊢
    by_cases hn : n = 0
    · rw [if_pos hn] at h; exact absurd rfl h
    · exact ⟨n, [], by simp [hn]⟩
  | cons a l =>
    rw [if_neg (by simp)]
    refine ⟨a, l.take ((l.length + 2) / 2 - 1), ?_⟩
    unfold halfN
    rw [show (List.length (a :: l) + 1) / 2 = ((l.length + 2) / 2 - 1) + 1 by simp; omega]
    rfl

/-! ### One after another -/
theorem slices_Grow_eq {n : Nat} (h : n ≤ 1000000000) : slices_Grow_int (n : Int) = some [] := by
  unfold slices_Grow_int
  rw [decide_eq_false (show ¬ (n : Int) < 0 by omega), show wi64 (0 - ((([] : List Int)).length : Int)) = 0 from rfl, show wi64 ((n : Int) - 0) = n from wi64_of (by omega)]
  simp only [cond_false, Option.bind_some]
  by_cases hn : n = 0
  · subst hn; rfl
  · rw [decide_eq_true (show (0 : Int) < (n : Int) by omega), need_true ⟨by omega, by omega⟩]
    have := take_nat (l := (List.replicate ((n : Int)).toNat (0 : Int))) (i := 0) (Nat.zero_le _)
    simp only [cond_true, Option.bind_some]
    rw [show (((([] : List Int)).length : Int)) = ((0 : Nat) : Int) from rfl, this]
    simp
theorem slices_Concat_eq {a b : List Int} (h : a.length + b.length ≤ 1000000) : slices_Concat_int [a, b] = some (a ++ b) := by
  unfold slices_Concat_int
  have l1 := loop_run (body := slices_Concat_int_L1 [a, b]) (fun i => (if i = 0 then (0 : Int) else if i = 1 then (a.length : Int) else ((a.length + b.length : Nat) : Int), (i : Int))) (r := ((a.length + b.length : Nat) : Int)) 2 (fun i hi => by
    match i, hi with
    | 0, _ =>
      have e : at_ [a, b] ((0 : Nat) : Int) = some a := rfl
      simp only [slices_Concat_int_L1, decide_eq_true (show ((0 : Nat) : Int) < (([a, b] : List (List Int)).length : Int) by simp), cond_true, e, Option.bind_some, if_true]
      rw [show wi64 (0 + (a.length : Int)) = (a.length : Int) by rw [Int.zero_add]; exact wi64_of (by omega), decide_eq_false (show ¬ (a.length : Int) < 0 by omega)]
      rfl
    | 1, _ =>
      have e : at_ [a, b] ((1 : Nat) : Int) = some b := rfl
      simp only [slices_Concat_int_L1, decide_eq_true (show ((1 : Nat) : Int) < (([a, b] : List (List Int)).length : Int) by simp), cond_true, e, Option.bind_some, if_true]
      simp only [show ¬ (1 = 0) by omega, if_false]
      rw [show wi64 ((a.length : Int) + (b.length : Int)) = ((a.length + b.length : Nat) : Int) by rw [wi64_of (by omega)]; omega, decide_eq_false (show ¬ ((a.length + b.length : Nat) : Int) < 0 by omega)]
      rfl) (by simp [slices_Concat_int_L1]) (k := fuel) (fuel_lt (by omega))
  have l2 := loop_run (body := slices_Concat_int_L2 [a, b]) (fun i => (if i = 0 then [] else if i = 1 then a else a ++ b, (i : Int))) (r := a ++ b) 2 (fun i hi => by
    match i, hi with
    | 0, _ =>
      have e : at_ [a, b] ((0 : Nat) : Int) = some a := rfl
      simp only [slices_Concat_int_L2, decide_eq_true (show ((0 : Nat) : Int) < (([a, b] : List (List Int)).length : Int) by simp), cond_true, e, Option.bind_some, if_true]
      rw [clone_eq (by omega)]
      rfl
    | 1, _ =>
      have e : at_ [a, b] ((1 : Nat) : Int) = some b := rfl
      simp only [slices_Concat_int_L2, decide_eq_true (show ((1 : Nat) : Int) < (([a, b] : List (List Int)).length : Int) by simp), cond_true, e, Option.bind_some, if_true]
      simp only [show ¬ (1 = 0) by omega, if_false]
      rw [app_of' (by omega)]
      rfl) (by simp [slices_Concat_int_L2]) (k := fuel) (fuel_lt (by omega))
  simp only [if_true] at l1 l2
  rw [show ((0 : Int), (0 : Int)) = ((0 : Int), ((0 : Nat) : Int)) from rfl, l1]
  simp only [Option.bind_some]
  rw [slices_Grow_eq (by omega)]
  simp only [Option.bind_some]
  rw [show (([] : List Int), (0 : Int)) = (([] : List Int), ((0 : Nat) : Int)) from rfl, l2]
  rfl

/-! ### Thieves -/
def ThP (t : Tree) (size : Int) (rings : List Ring) (shared : List (List Int)) (on p : Int) : Prop := MayP t size rings shared on ∧ setHas on p = true ∧ ringAll (ringAt rings p) = [] ∧ rowAt shared (nodeOf t p) = []
theorem MayP.nodeOk {t : Tree} {size : Int} {rings : List Ring} {shared : List (List Int)} {on : Int} (hM : MayP t size rings shared on) {p : Int} (h : IsP t p) : 0 ≤ p ∧ p < rings.length ∧ 0 ≤ nodeOf t p ∧ nodeOf t p < shared.length := by
  obtain ⟨k, hk, hkl⟩ := nodeOf_lt hM.1 h
  have hrl : rings.length = nprocs t := hM.2.2.2.1
  have hsl : shared.length = (lev t 1).length := hM.2.2.2.2.1
  have := h.1
  have := h.2
  omega
open Classical in
theorem ref17_Thief_eq {t : Tree} (hl : t.length ≤ 1000000) {on : Int} (ho : Iu64 on) (size : Int) {rings : List Ring} {shared : List (List Int)} (hs : SmP rings shared) (hb : (allL rings shared).length ≤ 1000000) (p : Int) :
    ref17_Thief t size rings shared on p = some (decide (ThP t size rings shared on p)) := by
  unfold ref17_Thief
  rw [ref15_May_eq hl ho size hs hb, ref15_On_eq ho]
  by_cases hM : MayP t size rings shared on
  case neg => rw [decide_eq_false hM, decide_eq_false (fun h : ThP t size rings shared on p => hM h.1)]; rfl
  rw [decide_eq_true hM]
  rcases Bool.eq_false_or_eq_true (setHas on p) with hP | hP
  case inr => rw [decide_eq_false (fun h : ThP t size rings shared on p => by rw [h.2.1] at hP; cases hP), hP]; rfl
  rw [hP]
  have hIs := isP_on hM hP
  obtain ⟨a1, a2, a3, a4⟩ := hM.nodeOk hIs
  obtain ⟨e1, e2⟩ := ringAt_at (rings := rings) a1 a2
  obtain ⟨f1, f2⟩ := rowAt_at (shared := shared) a3 a4
  have hr := hs.ring p
  simp only [Option.bind_some, Bool.not_true, cond_false, e1, ref04_All_eq (show (ringAt rings p).2.length ≤ 1000000 by omega), ref02_Node_eq hl, f1]
  rw [show ringAll ((ringAt rings p).1, (ringAt rings p).2) = ringAll (ringAt rings p) from rfl]
  by_cases k1 : ringAll (ringAt rings p) = []
  · rw [decide_eq_true (show ((ringAll (ringAt rings p)).length : Int) = 0 by rw [k1]; rfl)]
    by_cases k2 : rowAt shared (nodeOf t p) = []
    · rw [decide_eq_true (show ThP t size rings shared on p from ⟨hM, hP, k1, k2⟩), k2]; rfl
    · rw [decide_eq_false (fun h : ThP t size rings shared on p => k2 h.2.2.2)]
      simp only [cond_true, Option.bind_some]
      rw [decide_eq_false (show ¬ ((rowAt shared (nodeOf t p)).length : Int) = 0 by have := List.length_pos_iff.2 k2; omega)]
  · rw [decide_eq_false (fun h : ThP t size rings shared on p => k1 h.2.2.1), decide_eq_false (show ¬ ((ringAll (ringAt rings p)).length : Int) = 0 by have := List.length_pos_iff.2 k1; omega)]
    rfl
theorem Dp.pos {l : List Int} (h : Dp l) {g : Int} (hg : g ∈ l) : 0 < g := by
  obtain ⟨i, hi, rfl⟩ := List.getElem_of_mem hg
  exact (h i _ (List.getElem?_eq_getElem hi)).1
theorem MayP.ring_pos {t : Tree} {size : Int} {rings : List Ring} {shared : List (List Int)} {on : Int} (hM : MayP t size rings shared on) {q g : Int} (hg : g ∈ ringAll (ringAt rings q)) : 0 < g := by
  refine hM.2.2.2.2.2.2.2.2.pos ?_
  unfold allL
  refine List.mem_append_left _ (List.mem_flatMap.2 ⟨ringAt rings q, ?_, hg⟩)
  unfold ringAt at hg ⊢
  cases hq : rings[q.toNat]? with
  | none => rw [hq] at hg; simp [ringAll] at hg
  | some x => exact List.mem_of_getElem? hq
theorem MayP.row_pos {t : Tree} {size : Int} {rings : List Ring} {shared : List (List Int)} {on : Int} (hM : MayP t size rings shared on) {n g : Int} (hg : g ∈ rowAt shared n) : 0 < g := by
  refine hM.2.2.2.2.2.2.2.2.pos ?_
  unfold allL
  refine List.mem_append_right _ (List.mem_flatMap.2 ⟨rowAt shared n, ?_, hg⟩)
  unfold rowAt at hg ⊢
  cases hq : shared[n.toNat]? with
  | none => rw [hq] at hg; simp at hg
  | some x => exact List.mem_of_getElem? hq
theorem own_zero {t : Tree} {size : Int} {rings : List Ring} {shared : List (List Int)} {on : Int} (hM : MayP t size rings shared on) {p : Int} : (ownS t size rings shared on p).2.2.2.2.2.1 = 0 ↔ ringAll (ringAt rings p) = [] := by
  have hpos := fun g => hM.ring_pos (q := p) (g := g)
  unfold ownS
  generalize ringAt rings p = x at hpos
  obtain ⟨n, l⟩ := x
  unfold ringAll at hpos ⊢
  simp only at hpos ⊢
  by_cases hn : n = 0
  · subst hn
    simp only [ne_eq, not_true_eq_false, if_false, if_true] at hpos ⊢
    cases l with
    | nil => simp
    | cons g l =>
      have := hpos g List.mem_cons_self
      simp only
      rw [if_neg (by omega)]
      simp only [List.cons_ne_nil, iff_false]
      omega
  · simp only [ne_eq, hn, not_false_eq_true, if_true, if_false, List.cons_ne_nil]
theorem row_zero {t : Tree} {size : Int} {rings : List Ring} {shared : List (List Int)} {on : Int} (hM : MayP t size rings shared on) {n : Int} : (rowS t size rings shared on n).2.2.2.2.2.1 = 0 ↔ rowAt shared n = [] := by
  have hpos := fun g => hM.row_pos (n := n) (g := g)
  unfold rowS
  generalize rowAt shared n = l at hpos
  cases l with
  | nil => simp
  | cons g l =>
    have := hpos g List.mem_cons_self
    simp only [List.cons_ne_nil, iff_false]
    omega
theorem local_zero {t : Tree} {size : Int} {rings : List Ring} {shared : List (List Int)} {on : Int} (hM : MayP t size rings shared on) {p n : Int} {b : Bool} : (localS t size rings shared on p n b).2.2.2.2.2.1 = 0 ↔ ringAll (ringAt rings p) = [] ∧ rowAt shared n = [] := by
  rw [← own_zero hM (p := p), ← row_zero hM (n := n)]
  unfold localS
  cases b with
  | true =>
    simp only [cond_true]
    by_cases k1 : (rowS t size rings shared on n).2.2.2.2.2.1 = 0
    · by_cases k2 : (ownS t size rings shared on p).2.2.2.2.2.1 = 0
      · simp [k1, k2]
      · simp [k1, k2]
    · simp [k1]
  | false =>
    simp only [cond_false]
    by_cases k1 : (ownS t size rings shared on p).2.2.2.2.2.1 = 0
    · by_cases k2 : (rowS t size rings shared on n).2.2.2.2.2.1 = 0
      · simp [k1, k2]
      · simp [k1, k2]
    · simp [k1]

/-! ### What a thief takes -/
noncomputable def takeS (t : Tree) (size : Int) (rings : List Ring) (shared : List (List Int)) (on p q : Int) : R7 :=
  (t, size, set_ (set_ rings q (halfR (ringAt rings q))) p (0, ((halfG (ringAt rings q)).drop 1).take size.toNat), set_ shared (nodeOf t p) (((halfG (ringAt rings q)).drop 1).drop size.toNat), on, (halfG (ringAt rings q)).headD 0, far t p q)
def none7 (t : Tree) (size : Int) (rings : List Ring) (shared : List (List Int)) (on : Int) : R7 := (t, size, rings, shared, on, 0, -1)
def rowI (shared : List (List Int)) (node : Int) (i : Nat) : Int := (((node.toNat + i) % shared.length : Nat) : Int)
def rowQ (t : Tree) (size : Int) (rings : List Ring) (shared : List (List Int)) (on node : Int) (i : Nat) : Option R7 :=
  match rowAt shared (rowI shared node i) with
  | [] => none
  | g :: l => some (t, size, rings, set_ shared (rowI shared node i) l, on, g, 3)
def fromRow (t : Tree) (size : Int) (rings : List Ring) (shared : List (List Int)) (on node : Int) : R7 :=
  (stopped ((List.range' 1 (shared.length - 1)).findSome? (rowQ t size rings shared on node))).elim (fun _ => none7 t size rings shared on) id
open Classical in
noncomputable def stealS (t : Tree) (size : Int) (rings : List Ring) (shared : List (List Int)) (on p f : Int) : R7 :=
  if ThP t size rings shared on p then
    match victL t rings p f with
    | q :: _ => takeS t size rings shared on p q
    | [] => if 3 ≤ f then fromRow t size rings shared on (nodeOf t p) else none7 t size rings shared on
  else none7 t size rings shared on
theorem rowI_of {shared : List (List Int)} {node : Int} (h0 : 0 ≤ node) (h1 : node < shared.length) (hl : shared.length ≤ 1000) {i : Nat} (hi : i ≤ 1000) : (wi64 (node + (i : Int))).tmod (shared.length : Int) = rowI shared node i ∧ 0 ≤ rowI shared node i ∧ rowI shared node i < shared.length := by
  obtain ⟨k, rfl⟩ : ∃ k : Nat, node = k := ⟨node.toNat, by omega⟩
  have hk : (wi64 ((k : Int) + (i : Int))).tmod (shared.length : Int) = (((k + i) % shared.length : Nat) : Int) := by
    rw [wi64_of (by omega)]
    rfl
  have hlt : (k + i) % shared.length < shared.length := Nat.mod_lt _ (by omega)
  unfold rowI
  refine ⟨hk, by omega, ?_⟩
  simp only [Int.toNat_natCast]
  omega
theorem steal_row_eq {t : Tree} (hl : t.length ≤ 1000000) (size : Int) {rings : List Ring} {shared : List (List Int)} (hs : SmP rings shared) (on p : Int) (h0 : 0 ≤ nodeOf t p) (h1 : nodeOf t p < shared.length) :
    steal_row t size rings shared on p = some (fromRow t size rings shared on (nodeOf t p)) := by
  unfold steal_row
  rw [dist_Node_eq hl]
  simp only [Option.bind_some]
  have hsl := hs.2.2.1
  have := loop_search (body := steal_row_L1 t size rings shared on (nodeOf t p)) 1 shared.length (rowQ t size rings shared on (nodeOf t p)) (by omega) (fun i h2 h3 => by
    obtain ⟨r1, r2, r3⟩ := rowI_of h0 h1 hsl (i := i) (by omega)
    obtain ⟨e1, e2⟩ := rowAt_at (shared := shared) r2 r3
    have hrow := hs.row (rowI shared (nodeOf t p) i)
    unfold rowQ
    simp only [steal_row_L1, decide_eq_true (show (i : Int) < (shared.length : Int) by omega), cond_true, need_true (show (shared.length : Int) ≠ 0 by omega), Option.bind_some, r1, e1]
    generalize rowAt shared (rowI shared (nodeOf t p) i) = l at e1 hrow
    cases l with
    | nil => simp only [List.length_nil]; rw [decide_eq_false (by simp)]; simp only [cond_false, wi64_succ (show i ≤ 1000000000 by omega)]
    | cons g l =>
      have hd : at_ (g :: l) 0 = some g := rfl
      have hd2 : drop_ (g :: l) 1 = some l := drop_nat (l := g :: l) (i := 1) (by simp)
      simp only [decide_eq_true (show (0 : Int) < ((g :: l).length : Int) by simp), cond_true, slices_Clone_Lint, slices_Clone_int, clone_eq (show shared.length ≤ 1000000000 by omega), hd, hd2, Option.bind_some, clone_eq (show l.length ≤ 1000000000 by simp at hrow; omega), e1]) (by simp [steal_row_L1]) (k := fuel) (fuel_lt (by omega))
  rw [show (1 : Int) = ((1 : Nat) : Int) from rfl, this]
  simp only [Option.bind_some, fromRow]
  cases stopped ((List.range' 1 (shared.length - 1)).findSome? (rowQ t size rings shared on (nodeOf t p))) <;> rfl
theorem set_set_at {rings : List Ring} {q p : Int} {x : Ring} (h0 : 0 ≤ p) (h1 : p < rings.length) : ∃ y, at_ (set_ rings q x) p = some y := by
  obtain ⟨y, h, _⟩ := at_lt_some (l := set_ rings q x) h0 (by rw [set_at]; exact h1)
  exact ⟨y, h⟩
theorem minI {a : Int} {n : Nat} (h : 0 ≤ a) : (if a < (n : Int) then a else (n : Int)) = ((min a.toNat n : Nat) : Int) := by split <;> omega
theorem steal_take_eq {t : Tree} (hl : t.length ≤ 1000000) {size on : Int} {rings : List Ring} {shared : List (List Int)} (hs : SmP rings shared) {p q : Int} (hT : ThP t size rings shared on p) (hqI : IsP t q) (hqR : ringAll (ringAt rings q) ≠ []) :
    steal_take t size rings shared on p q = some (takeS t size rings shared on p q) := by
  have hIs := isP_on hT.1 hT.2.1
  obtain ⟨a1, a2, a3, a4⟩ := hT.1.nodeOk hIs
  obtain ⟨b1, b2, _, _⟩ := hT.1.nodeOk hqI
  obtain ⟨e1, _⟩ := ringAt_at (rings := rings) b1 b2
  obtain ⟨f1, _⟩ := rowAt_at (shared := shared) a3 a4
  have hr := hs.ring q
  obtain ⟨g, l, hg⟩ := halfG_ne hqR
  have hgl := halfG_len hr
  have hsz := hT.1.2.1
  have hsz2 := hT.1.2.2.1
  obtain ⟨y, hy⟩ := set_set_at (rings := rings) (q := q) (x := halfR (ringAt rings q)) a1 a2
  rw [hg, List.length_cons] at hgl
  unfold steal_take takeS
  have hd : at_ (g :: l) 0 = some g := rfl
  have hd2 : drop_ (g :: l) 1 = some l := drop_nat (l := g :: l) (i := 1) (by simp)
  simp only [e1, Option.bind_some, ring_Half_eq hr, slices_Clone_ring_Ring, slices_Clone_Lint, clone_eq (show rings.length ≤ 1000000000 by have := hs.1; omega), clone_eq (show shared.length ≤ 1000000000 by have := hs.2.2.1; omega)]
  rw [show ((ringAt rings q).1, (ringAt rings q).2) = ringAt rings q from rfl, hg, hd2]
  simp only [Option.bind_some]
  rw [minI (n := l.length) (show 0 ≤ size by omega), take_nat (show min size.toNat l.length ≤ l.length by omega), drop_nat (show min size.toNat l.length ≤ l.length by omega), hd]
  simp only [Option.bind_some]
  rw [show ((halfR (ringAt rings q)).1, (halfR (ringAt rings q)).2) = halfR (ringAt rings q) from rfl, hy]
  simp only [Option.bind_some, dist_Node_eq hl, f1, hT.2.2.2]
  rw [slices_Concat_eq (by rw [List.length_drop]; simp; omega)]
  simp only [Option.bind_some, dist_Far_eq hl, List.nil_append, List.drop_one, List.tail_cons, List.headD_cons]
  rw [show l.take (min size.toNat l.length) = l.take size.toNat by rcases Nat.le_total size.toNat l.length with h | h <;> simp [h, List.take_of_length_le], show l.drop (min size.toNat l.length) = l.drop size.toNat by rcases Nat.le_total size.toNat l.length with h | h <;> simp [h]]
theorem mem_victL {t : Tree} {size : Int} {rings : List Ring} {shared : List (List Int)} {on : Int} (hM : MayP t size rings shared on) {p f q : Int} (h : q ∈ victL t rings p f) : IsP t p ∧ IsP t q ∧ q ≠ p ∧ ringAll (ringAt rings q) ≠ [] ∧ far t p q ≤ f := by
  unfold victL at h
  by_cases hP : IsP t p
  · rw [if_pos hP, List.mem_filter] at h
    have h1 := (mem_nearL hM.1 hP).1 h.1
    unfold keepV at h
    simp only [Bool.and_eq_true, Bool.not_eq_true', decide_eq_false_iff_not, decide_eq_true_eq] at h
    exact ⟨hP, h1.1, h1.2, h.2.1, h.2.2⟩
  · rw [if_neg hP] at h; simp at h
open Classical in
theorem steal_Steal_eq {t : Tree} (hl : t.length ≤ 1000000) {on : Int} (ho : Iu64 on) (size : Int) {rings : List Ring} {shared : List (List Int)} (hs : SmP rings shared) (hb : (allL rings shared).length ≤ 1000000) (p f : Int) :
    steal_Steal t size rings shared on p f = some (stealS t size rings shared on p f) := by
  unfold steal_Steal
  rw [runs_May_eq hl ho size hs hb, bits_Set_Has_eq ho, find_Local_eq hl ho size hs hb, steal_Victims_eq hl ho size hs hb]
  unfold stealS
  by_cases hM : MayP t size rings shared on
  case neg => rw [decide_eq_false hM, if_neg (fun h : ThP t size rings shared on p => hM h.1)]; rfl
  rw [decide_eq_true hM]
  rcases Bool.eq_false_or_eq_true (setHas on p) with hP | hP
  case inr => rw [if_neg (fun h : ThP t size rings shared on p => by rw [h.2.1] at hP; cases hP), hP]; rfl
  rw [hP, if_pos ⟨hM, rfl⟩, if_pos hM]
  have hIs := isP_on hM hP
  obtain ⟨a1, a2, a3, a4⟩ := hM.nodeOk hIs
  simp only [Option.bind_some, Bool.not_true, cond_false]
  by_cases hT : ThP t size rings shared on p
  · rw [decide_eq_true ((local_zero hM).2 ⟨hT.2.2.1, hT.2.2.2⟩), if_pos hT]
    simp only [Bool.not_true, cond_false]
    cases hv : victL t rings p f with
    | cons q l =>
      obtain ⟨_, h2, _, h4, _⟩ := mem_victL hM (q := q) (f := f) (p := p) (by rw [hv]; exact List.mem_cons_self)
      have hd : at_ (q :: l) 0 = some q := rfl
      simp only [decide_eq_true (show (0 : Int) < ((q :: l).length : Int) by simp), cond_true, hd, Option.bind_some, steal_take_eq hl hs hT h2 h4]
    | nil =>
      rw [decide_eq_false (show ¬ (0 : Int) < (([] : List Int).length : Int) by simp)]
      simp only [cond_false, steal_row_eq hl size hs on p a3 a4]
      by_cases hf : 3 ≤ f
      · rw [decide_eq_true hf, if_pos hf]; rfl
      · rw [decide_eq_false hf, if_neg hf]; rfl
  · rw [decide_eq_false (fun h => hT ⟨hM, hP, (local_zero hM).1 h⟩), if_neg hT]; rfl
/-! ### Few -/
def FewP (t : Tree) (rings : List Ring) (shared : List (List Int)) : Prop := t.length ≤ 64 ∧ rings.length ≤ 40 ∧ shared.length ≤ 40 ∧ (∀ x ∈ rings, x.2.length ≤ 40) ∧ ∀ l ∈ shared, l.length ≤ 40
open Classical in
theorem ref15_Few_eq (t : Tree) (size : Int) (rings : List Ring) (shared : List (List Int)) (on : Int) : ref15_Few t size rings shared on = some (decide (FewP t rings shared)) := by
  unfold ref15_Few
  by_cases h1 : t.length ≤ 64
  case neg => rw [decide_eq_true (show (64 : Int) < (t.length : Int) by omega), decide_eq_false (fun h : FewP t rings shared => h1 h.1)]; rfl
  by_cases h2 : rings.length ≤ 40
  case neg => rw [decide_eq_false (show ¬ (64 : Int) < (t.length : Int) by omega), decide_eq_true (show (40 : Int) < (rings.length : Int) by omega), decide_eq_false (fun h : FewP t rings shared => h2 h.2.1)]; rfl
  by_cases h3 : shared.length ≤ 40
  case neg => rw [decide_eq_false (show ¬ (64 : Int) < (t.length : Int) by omega), decide_eq_false (show ¬ (40 : Int) < (rings.length : Int) by omega), decide_eq_true (show (40 : Int) < (shared.length : Int) by omega), decide_eq_false (fun h : FewP t rings shared => h3 h.2.2.1)]; rfl
  rw [decide_eq_false (show ¬ (64 : Int) < (t.length : Int) by omega), decide_eq_false (show ¬ (40 : Int) < (rings.length : Int) by omega), decide_eq_false (show ¬ (40 : Int) < (shared.length : Int) by omega)]
  simp only [cond_false, Option.bind_some]
  have l1 := loop_all (body := ref15_Few_L1 rings) rings false (fun _ x => x.2.length ≤ 40) (by omega) (fun i x hx hi => by
    simp only [ref15_Few_L1, decide_eq_true (show (i : Int) < (rings.length : Int) by omega), cond_true, at_nat, hx, Option.bind_some]
    by_cases h : x.2.length ≤ 40
    · rw [decide_eq_false (show ¬ (40 : Int) < (x.2.length : Int) by omega), if_pos h]; simp only [cond_false, wi64_succ (show i ≤ 1000000000 by omega)]
    · rw [decide_eq_true (show (40 : Int) < (x.2.length : Int) by omega), if_neg h]; rfl) (by simp [ref15_Few_L1])
  have l2 := loop_all (body := ref15_Few_L2 shared) shared false (fun _ x => x.length ≤ 40) (by omega) (fun i x hx hi => by
    simp only [ref15_Few_L2, decide_eq_true (show (i : Int) < (shared.length : Int) by omega), cond_true, at_nat, hx, Option.bind_some]
    by_cases h : x.length ≤ 40
    · rw [decide_eq_false (show ¬ (40 : Int) < (x.length : Int) by omega), if_pos h]; simp only [cond_false, wi64_succ (show i ≤ 1000000000 by omega)]
    · rw [decide_eq_true (show (40 : Int) < (x.length : Int) by omega), if_neg h]; rfl) (by simp [ref15_Few_L2])
  rw [l1, l2]
  by_cases k1 : ∀ (i : Nat) (x : Ring), rings[i]? = some x → x.2.length ≤ 40
  · rw [if_pos k1]
    by_cases k2 : ∀ (i : Nat) (x : List Int), shared[i]? = some x → x.length ≤ 40
    · rw [if_pos k2, decide_eq_true (show FewP t rings shared from ⟨h1, h2, h3, fun x hx => by obtain ⟨i, hi⟩ := List.mem_iff_getElem?.1 hx; exact k1 i x hi, fun x hx => by obtain ⟨i, hi⟩ := List.mem_iff_getElem?.1 hx; exact k2 i x hi⟩)]; rfl
    · rw [if_neg k2, decide_eq_false (fun h : FewP t rings shared => k2 fun i x hx => h.2.2.2.2 x (List.mem_of_getElem? hx))]; rfl
  · rw [if_neg k1, decide_eq_false (fun h : FewP t rings shared => k1 fun i x hx => h.2.2.2.1 x (List.mem_of_getElem? hx))]; rfl
theorem flatMap_len {α : Type} {g : α → List Int} {B : Nat} : ∀ {l : List α}, (∀ x ∈ l, (g x).length ≤ B) → (l.flatMap g).length ≤ l.length * B
  | [], _ => by simp
  | a :: l, h => by
    rw [List.flatMap_cons, List.length_append, List.length_cons, Nat.add_mul]
    have h1 := h a List.mem_cons_self
    have h2 := flatMap_len (l := l) fun x hx => h x (List.mem_cons_of_mem _ hx)
    omega
theorem FewP.sm {t : Tree} {rings : List Ring} {shared : List (List Int)} (h : FewP t rings shared) : t.length ≤ 1000000 ∧ SmP rings shared ∧ (allL rings shared).length ≤ 1000000 := by
  obtain ⟨h1, h2, h3, h4, h5⟩ := h
  refine ⟨by omega, ⟨by omega, fun x hx => by have := h4 x hx; omega, by omega, fun x hx => by have := h5 x hx; omega⟩, ?_⟩
  unfold allL
  rw [List.length_append]
  have k1 : (rings.flatMap ringAll).length ≤ rings.length * 41 := flatMap_len fun x hx => by have := h4 x hx; have := ringAll_len (x := x); omega
  have k2 : (shared.flatMap id).length ≤ shared.length * 40 := flatMap_len fun x hx => by have := h5 x hx; exact this
  have m1 : rings.length * 41 ≤ 40 * 41 := Nat.mul_le_mul_right _ h2
  have m2 : shared.length * 40 ≤ 40 * 40 := Nat.mul_le_mul_right _ h3
  omega

/-! ### Copies, sameness -/
theorem loop_copy {α : Type} (l : List α) (hl : l.length ≤ 1000000) {body : (Int × List α) → Option ((Int × List α) ⊕ List α)} (hb : ∀ (i : Nat) (x : α) (a : List α), l[i]? = some x → i < l.length → a.length + 1 ≤ 1000000 → body ((i : Int), a) = some (.inl (((i + 1 : Nat) : Int), a ++ [x]))) (he : ∀ a, body ((l.length : Int), a) = some (.inr a)) : loopO body fuel (0, []) = some l := by
  have := loop_run (body := body) (fun i => ((i : Int), l.take i)) (r := l) l.length (fun i hi => by
    have hx := List.getElem?_eq_getElem hi
    rw [hb i _ _ hx hi (by rw [List.length_take]; omega), List.take_add_one, hx]
    rfl) (by rw [he]; simp) (k := fuel) (fuel_lt (by omega))
  exact this
theorem law17_made_eq (t : Tree) (size : Int) {rings : List Ring} {shared : List (List Int)} (hs : SmP rings shared) (on : Int) : law17_made t size rings shared on = some (t, size, rings, shared, on) := by
  unfold law17_made
  have h1 := hs.1
  have h3 := hs.2.2.1
  rw [loop_copy rings (by omega) (fun i x a hx hi ha => by
    have := hs.2.1 x (List.mem_of_getElem? hx)
    simp only [law17_made_L1, decide_eq_true (show (i : Int) < (rings.length : Int) by omega), cond_true, at_nat, hx, Option.bind_some, clone_eq (show x.2.length ≤ 1000000000 by omega), app_of' (show a.length + [(x.1, x.2)].length ≤ 1000000000 by simp; omega), wi64_succ (show i ≤ 1000000000 by omega)]) (fun a => by simp [law17_made_L1])]
  simp only [Option.bind_some]
  rw [loop_copy shared (by omega) (fun i x a hx hi ha => by
    have := hs.2.2.2 x (List.mem_of_getElem? hx)
    simp only [law17_made_L2, decide_eq_true (show (i : Int) < (shared.length : Int) by omega), cond_true, at_nat, hx, Option.bind_some, clone_eq (show x.length ≤ 1000000000 by omega), app_of' (show a.length + [x].length ≤ 1000000000 by simp; omega), wi64_succ (show i ≤ 1000000000 by omega)]) (fun a => by simp [law17_made_L2])]
  rfl
theorem ref01_Ints_eq {a : List Int} (ha : a.length ≤ 100000000) (b : List Int) : ref01_Ints a b = some (decide (a = b)) := by
  unfold ref01_Ints
  by_cases hl : a.length = b.length
  case neg => rw [decide_eq_false (show ¬ (a.length : Int) = (b.length : Int) by omega), decide_eq_false (fun h : a = b => hl (by rw [h]))]; rfl
  rw [decide_eq_true (show (a.length : Int) = (b.length : Int) by omega)]
  simp only [Bool.not_true, cond_false]
  have := loop_all (body := ref01_Ints_L1 a b) a false (fun i x => b[i]? = some x) ha (fun i x hx hi => by
    obtain ⟨y, hy⟩ : ∃ y, b[i]? = some y := ⟨_, List.getElem?_eq_getElem (show i < b.length by omega)⟩
    simp only [ref01_Ints_L1, decide_eq_true (show (i : Int) < (a.length : Int) by omega), cond_true, at_nat, hx, hy, Option.bind_some]
    by_cases h : x = y
    · subst h; rw [decide_eq_true (rfl : x = x), if_pos rfl]; simp only [Bool.not_true, cond_false, wi64_succ (show i ≤ 1000000000 by omega)]
    · rw [decide_eq_false h, if_neg (fun hh => h (by injection hh with hh; exact hh.symm))]; rfl) (by simp [ref01_Ints_L1])
  rw [this]
  by_cases h : a = b
  · subst h; rw [if_pos (fun i x hx => hx), decide_eq_true (rfl : a = a)]; rfl
  · rw [decide_eq_false h, if_neg (fun hh => h (List.ext_getElem? fun i => by
      cases hx : a[i]? with
      | some x => rw [hh i x hx]
      | none => rw [List.getElem?_eq_none_iff] at hx; rw [List.getElem?_eq_none (by omega)]))]; rfl
/-! ### What stays small -/
theorem mem_set_ {α : Type} {l : List α} {i : Int} {x y : α} (h : y ∈ set_ l i x) : y ∈ l ∨ y = x := by
  unfold set_ at h
  exact (List.mem_or_eq_of_mem_set h)
theorem SmP.setRing {rings : List Ring} {shared : List (List Int)} (h : SmP rings shared) (q : Int) {x : Ring} (hx : x.2.length ≤ 1000) : SmP (set_ rings q x) shared := ⟨by rw [set_at]; exact h.1, fun y hy => by
  rcases mem_set_ hy with h1 | h1
  · exact h.2.1 y h1
  · rw [h1]; exact hx, h.2.2.1, h.2.2.2⟩
theorem SmP.setRow {rings : List Ring} {shared : List (List Int)} (h : SmP rings shared) (q : Int) {x : List Int} (hx : x.length ≤ 100000) : SmP rings (set_ shared q x) := ⟨h.1, h.2.1, by rw [set_at]; exact h.2.2.1, fun y hy => by
  rcases mem_set_ hy with h1 | h1
  · exact h.2.2.2 y h1
  · rw [h1]; exact hx⟩
theorem halfR_len {x : Ring} (h : x.2.length ≤ 1000) : (halfR x).2.length ≤ 1000 := by
  unfold halfR
  split
  · simp
  · simp only [List.length_drop]; omega
theorem fromRow_or (t : Tree) (size : Int) (rings : List Ring) (shared : List (List Int)) (on n : Int) : fromRow t size rings shared on n = none7 t size rings shared on ∧ (∀ i, 1 ≤ i → i < shared.length → rowAt shared (rowI shared n i) = []) ∨ ∃ i g l, 1 ≤ i ∧ i < shared.length ∧ rowAt shared (rowI shared n i) = g :: l ∧ fromRow t size rings shared on n = (t, size, rings, set_ shared (rowI shared n i) l, on, g, 3) := by
  unfold fromRow
  cases hf : (List.range' 1 (shared.length - 1)).findSome? (rowQ t size rings shared on n) with
  | none =>
    refine .inl ⟨rfl, fun i h1 h2 => ?_⟩
    rw [List.findSome?_eq_none_iff] at hf
    have := hf i (List.mem_range'_1.2 ⟨h1, by omega⟩)
    unfold rowQ at this
    split at this
    · assumption
    · cases this
  | some r =>
    obtain ⟨i, hi, hr⟩ := List.exists_of_findSome?_eq_some hf
    rw [List.mem_range'_1] at hi
    unfold rowQ at hr
    split at hr
    · cases hr
    · rename_i g l hg
      injection hr with hr
      exact .inr ⟨i, g, l, hi.1, by omega, hg, hr.symm⟩
theorem stealS_or (t : Tree) (size : Int) (rings : List Ring) (shared : List (List Int)) (on p f : Int) : stealS t size rings shared on p f = none7 t size rings shared on ∨ (∃ q l, ThP t size rings shared on p ∧ victL t rings p f = q :: l ∧ stealS t size rings shared on p f = takeS t size rings shared on p q) ∨ (3 ≤ f ∧ ThP t size rings shared on p ∧ victL t rings p f = [] ∧ stealS t size rings shared on p f = fromRow t size rings shared on (nodeOf t p)) := by
  unfold stealS
  by_cases hT : ThP t size rings shared on p
  · rw [if_pos hT]
    cases hv : victL t rings p f with
    | cons q l => exact .inr (.inl ⟨q, l, hT, rfl, rfl⟩)
    | nil =>
      by_cases hf : 3 ≤ f
      · exact .inr (.inr ⟨hf, hT, rfl, if_pos hf⟩)
      · exact .inl (if_neg hf)
  · exact .inl (if_neg hT)
theorem SmP.steal {rings : List Ring} {shared : List (List Int)} (h : SmP rings shared) (t : Tree) (size on p f : Int) : SmP (stealS t size rings shared on p f).2.2.1 (stealS t size rings shared on p f).2.2.2.1 := by
  rcases stealS_or t size rings shared on p f with e | ⟨q, l, hT, hv, e⟩ | ⟨_, _, _, e⟩
  · rw [e]; exact h
  · rw [e]
    have hh := halfG_len (h.ring q)
    refine SmP.setRow (SmP.setRing (SmP.setRing h q (halfR_len (h.ring q))) p ?_) _ ?_
    · simp only [List.length_take, List.length_drop]; omega
    · simp only [List.length_drop]; omega
  · rw [e]
    rcases fromRow_or t size rings shared on (nodeOf t p) with ⟨e, _⟩ | ⟨i, g, l, h1, h2, h3, e⟩
    · rw [e]; exact h
    · rw [e]
      have := h.row (rowI shared (nodeOf t p) i)
      rw [h3] at this
      simp at this
      exact SmP.setRow h _ (by omega)
/-! ### What is shown -/
def tShown : Tree := [((-1), 0), (0, 1), (1, 2), (2, 3), (2, 3)]
def rShown : List Ring := [(0, []), (0, [1, 2, 3])]
theorem sm_shown : SmP rShown [[]] := ⟨by decide, by decide, by decide, by decide⟩
theorem iu3 : Iu64 3 := by unfold Iu64; decide
open Classical in
theorem th_shown : ThP tShown 4 rShown [[]] 3 0 := by
  have h : ref17_Thief tShown 4 rShown [[]] 3 0 = some true := by decide
  rw [ref17_Thief_eq (by decide) iu3 4 sm_shown (by decide)] at h
  injection h with h
  exact of_decide_eq_true h
theorem far_shown : far tShown 0 1 = 1 := by
  have h : dist_Far tShown 0 1 = some 1 := by decide
  rw [dist_Far_eq (by decide)] at h
  injection h
theorem near_shown : nearL tShown 0 = [1] := by
  have hn : nprocs tShown = 2 := by decide
  have hr : rot tShown 0 1 = 1 := by decide
  have h : ∀ f : Nat, nearF tShown 0 f = bif decide ((1 : Int) = (f : Int)) then [1] else [] := fun f => by
    unfold nearF
    rw [hn]
    simp only [show List.range' 1 (2 - 1) = [1] from rfl, List.flatMap_cons, List.flatMap_nil, List.append_nil, nearAt, hr, far_shown]
  unfold nearL
  simp only [show List.range' 1 3 = [1, 2, 3] from rfl, List.flatMap_cons, List.flatMap_nil, List.append_nil, h]
  rfl
theorem vict_shown : victL tShown rShown 0 1 = [1] := by
  unfold victL
  rw [if_pos (isP_on th_shown.1 th_shown.2.1), near_shown]
  have : keepV tShown rShown 0 1 1 = true := by
    unfold keepV
    rw [far_shown]
    rfl
  rw [List.filter_cons, this]
  rfl
theorem node_shown : nodeOf tShown 0 = 0 := by
  have h : dist_Node tShown 0 = some 0 := by decide
  rw [dist_Node_eq (by decide)] at h
  injection h
theorem shown : law17_shown = some true := by
  have h : steal_Steal tShown 4 rShown [[]] 3 0 1 = some (tShown, 4, [(0, [2]), (0, [3])], [[]], 3, 1, 1) := by
    rw [steal_Steal_eq (by decide) iu3 4 sm_shown (by decide)]
    unfold stealS
    rw [if_pos th_shown, vict_shown]
    simp only [takeS, far_shown, node_shown]
    rfl
  unfold law17_shown
  change ((steal_Steal tShown 4 rShown [[]] 3 0 1).bind _) = _
  rw [h]
  decide

theorem halfG_pos {t : Tree} {size : Int} {rings : List Ring} {shared : List (List Int)} {on : Int} (hM : MayP t size rings shared on) {q : Int} (h : ringAll (ringAt rings q) ≠ []) : 0 < (halfG (ringAt rings q)).headD 0 := by
  have hp := fun g => hM.ring_pos (q := q) (g := g)
  generalize ringAt rings q = x at h hp ⊢
  obtain ⟨n, l⟩ := x
  unfold ringAll at h hp
  unfold halfG
  cases l with
  | nil =>
    simp only at h hp ⊢
    by_cases hn : n = 0
    · rw [if_pos hn] at h; exact absurd rfl h
    · rw [if_neg hn] at hp ⊢; rw [if_pos trivial]; exact hp n (by simp)
  | cons a l =>
    rw [if_neg (by simp)]
    unfold halfN
    rw [show (List.length (a :: l) + 1) / 2 = ((l.length + 2) / 2 - 1) + 1 by simp; omega]
    refine hp a ?_
    split <;> simp
theorem mem_victL_of {t : Tree} {rings : List Ring} (hT : TOk t) {p f q : Int} (hP : IsP t p) (hQ : IsP t q) (hne : q ≠ p) (hr : ringAll (ringAt rings q) ≠ []) (hf : far t p q ≤ f) : q ∈ victL t rings p f := by
  unfold victL
  rw [if_pos hP, List.mem_filter]
  refine ⟨(mem_nearL hT hP).2 ⟨hQ, hne⟩, ?_⟩
  unfold keepV
  rw [decide_eq_false hr, decide_eq_true hf]
  rfl
theorem Dp_iff {l : List Int} : Dp l ↔ (∀ g ∈ l, 0 < g) ∧ l.Nodup := by
  constructor
  · intro h
    refine ⟨fun g hg => h.pos hg, List.pairwise_iff_getElem.2 fun i j hi hj hij e => ?_⟩
    refine (h j _ (List.getElem?_eq_getElem hj)).2 ?_
    rw [← e]
    exact List.mem_take_iff_getElem.2 ⟨i, by omega, rfl⟩
  · rintro ⟨h1, h2⟩ i g hg
    refine ⟨h1 g (List.mem_of_getElem? hg), fun hm => ?_⟩
    obtain ⟨j, hj, e⟩ := List.mem_take_iff_getElem.1 hm
    obtain ⟨hi, e2⟩ := List.getElem?_eq_some_iff.1 hg
    exact List.pairwise_iff_getElem.1 h2 j i (by omega) hi (by omega) (e.trans e2.symm)
/-! ### Bags -/
theorem count_set {α : Type} {f : α → List Int} {a : Int} {x y : α} : ∀ {l : List α} {i : Nat}, l[i]? = some y → ((l.set i x).flatMap f).count a + (f y).count a = (l.flatMap f).count a + (f x).count a
  | [], i, h => by simp at h
  | b :: l, 0, h => by
    simp only [List.getElem?_cons_zero, Option.some.injEq] at h
    subst h
    simp only [List.set_cons_zero, List.flatMap_cons, List.count_append]
    omega
  | b :: l, i + 1, h => by
    simp only [List.getElem?_cons_succ] at h
    have ih := count_set (f := f) (a := a) (x := x) h
    simp only [List.set_cons_succ, List.flatMap_cons, List.count_append]
    omega
theorem ref04_Bag_perm {a b : List Int} (h : a.Perm b) (hl : a.length ≤ 10000000) : ref04_Bag a b = some true := by
  unfold ref04_Bag
  have hlen := h.length_eq
  rw [decide_eq_true (show (a.length : Int) = (b.length : Int) by omega)]
  simp only [Bool.not_true, cond_false]
  have := loop_all (body := ref04_Bag_L2 a b) a false (fun _ _ => True) (by omega) (fun j x hx hj => by
    have h1 := loop_run (body := ref04_Bag_L1 a b (j : Int)) (fun i => (((a.take i).count x : Int) - ((b.take i).count x : Int), (i : Int))) (r := 0) a.length (fun i hi => by
      have ha := List.getElem?_eq_getElem hi
      have hb := List.getElem?_eq_getElem (show i < b.length by omega)
      generalize a[i] = u at ha
      generalize b[i] = v at hb
      have c1 := List.count_le_length (a := x) (l := a.take i)
      have c2 := List.count_le_length (a := x) (l := b.take i)
      rw [List.length_take] at c1 c2
      have t1 : a.take (i + 1) = a.take i ++ [u] := by rw [List.take_add_one, ha]; rfl
      have t2 : b.take (i + 1) = b.take i ++ [v] := by rw [List.take_add_one, hb]; rfl
      simp only [ref04_Bag_L1, decide_eq_true (show (i : Int) < (a.length : Int) by omega), cond_true, at_nat, ha, hb, hx, Option.bind_some, wi64_succ (show i ≤ 1000000000 by omega)]
      rw [t1, t2, List.count_append, List.count_append, List.count_singleton, List.count_singleton]
      by_cases hu : u = x
      · subst hu
        simp only [decide_true, cond_true, beq_self_eq_true, if_true]
        rw [wi64_of (by omega)]
        by_cases hv : v = u
        · subst hv
          simp only [decide_true, cond_true, beq_self_eq_true, if_true, Option.bind_some]
          rw [wi64_of (by omega)]
          simp only [Option.some.injEq, Sum.inl.injEq, Prod.mk.injEq, and_true]
          omega
        · rw [decide_eq_false hv]
          simp only [cond_false, Option.bind_some, beq_eq_false_iff_ne.2 hv, Bool.false_eq_true, if_false, Option.some.injEq, Sum.inl.injEq, Prod.mk.injEq, and_true]
          omega
      · rw [decide_eq_false hu]
        by_cases hv : v = x
        · subst hv
          simp only [decide_true, cond_true, cond_false, beq_self_eq_true, beq_eq_false_iff_ne.2 hu, Bool.false_eq_true, if_false, if_true, Option.bind_some]
          rw [wi64_of (by omega)]
          simp only [Option.some.injEq, Sum.inl.injEq, Prod.mk.injEq, and_true]
          omega
        · rw [decide_eq_false hv]
          simp only [cond_false, Option.bind_some, beq_eq_false_iff_ne.2 hu, beq_eq_false_iff_ne.2 hv, Bool.false_eq_true, if_false, Option.some.injEq, Sum.inl.injEq, Prod.mk.injEq, and_true]
          omega) (by
      simp only [ref04_Bag_L1, decide_eq_false (show ¬ (a.length : Int) < (a.length : Int) by omega), cond_false, List.take_length]
      rw [show b.take a.length = b by rw [hlen]; exact List.take_length, h.count_eq x]
      simp) (k := fuel) (fuel_lt (by omega))
    simp only [List.take_zero, List.count_nil, Int.sub_self] at h1
    rw [show ((0 : Nat) : Int) = 0 from rfl] at h1
    simp only [ref04_Bag_L2, decide_eq_true (show (j : Int) < (a.length : Int) by omega), cond_true, h1, Option.bind_some, decide_true, Bool.not_true, cond_false, if_true, wi64_succ (show j ≤ 1000000000 by omega)]) (by simp [ref04_Bag_L2])
  rw [this, if_pos (fun _ _ _ => trivial)]
  rfl

/-! ### What may be stays so -/
theorem half_count (x : Ring) (a : Int) : (ringAll x).count a = (halfG x).count a + (ringAll (halfR x)).count a := by
  obtain ⟨n, l⟩ := x
  unfold ringAll halfG halfR
  by_cases hl : l = []
  · subst hl
    by_cases hn : n = 0
    · subst hn; simp
    · simp [hn]
  · rw [if_neg hl, if_neg hl]
    have : (l.take (halfN l)).count a + (l.drop (halfN l)).count a = l.count a := by rw [← List.count_append, List.take_append_drop]
    by_cases hn : n = 0
    · subst hn; simp only [if_true]; omega
    · simp only [hn, if_false, List.count_cons]; omega
theorem MayP.of_perm {t : Tree} {size : Int} {rings rings' : List Ring} {shared shared' : List (List Int)} {on g : Int} (hM : MayP t size rings shared on) (h1 : rings'.length = rings.length) (h2 : shared'.length = shared.length) (hp : (g :: allL rings' shared').Perm (allL rings shared))
    (hr : ∀ (p : Nat) (x : Ring), rings'[p]? = some x → ((x.2.length : Int) ≤ size ∨ x.2.length ≤ 2) ∧ (setHas on p = true ∨ ringAll x = [])) : MayP t size rings' shared' on := by
  obtain ⟨a1, a2, a3, a4, a5, a6, a7, a8, a9⟩ := hM
  obtain ⟨d1, d2⟩ := Dp_iff.1 a9
  have n1 : (allL rings' shared').Nodup := (List.nodup_cons.1 (hp.nodup_iff.2 d2)).2
  have n2 : ∀ g ∈ allL rings' shared', 0 < g := fun x hx => d1 x (hp.mem_iff.1 (List.mem_cons_of_mem _ hx))
  refine ⟨a1, a2, a3, by omega, by omega, a6, a7, fun p x hx => ⟨⟨Dp_iff.2 ⟨fun y hy => n2 y ?_, ?_⟩, (hr p x hx).1⟩, (hr p x hx).2⟩, Dp_iff.2 ⟨n2, n1⟩⟩
  · unfold allL
    exact List.mem_append_left _ (List.mem_flatMap.2 ⟨x, List.mem_of_getElem? hx, hy⟩)
  · unfold allL at n1
    exact (List.pairwise_flatMap.1 (List.nodup_append.1 n1).1).1 x (List.mem_of_getElem? hx)
/-- What of it all is said when somebody was stolen. -/
def Took (t : Tree) (size : Int) (rings : List Ring) (shared : List (List Int)) (on f : Int) (r : R7) : Prop :=
  r.1 = t ∧ r.2.1 = size ∧ r.2.2.2.2.1 = on ∧ 0 < r.2.2.2.2.2.1 ∧ 1 ≤ r.2.2.2.2.2.2 ∧ r.2.2.2.2.2.2 ≤ f ∧ (r.2.2.2.2.2.1 :: allL r.2.2.1 r.2.2.2.1).Perm (allL rings shared) ∧ MayP t size r.2.2.1 r.2.2.2.1 on
theorem take_took {t : Tree} {size : Int} {rings : List Ring} {shared : List (List Int)} {on p q f : Int} (hT : ThP t size rings shared on p) (hq : q ∈ victL t rings p f) : Took t size rings shared on f (takeS t size rings shared on p q) := by
  have hM := hT.1
  obtain ⟨hIs, h2, h3, h4, h5⟩ := mem_victL hM hq
  obtain ⟨a1, a2, a3, a4⟩ := hM.nodeOk hIs
  obtain ⟨b1, b2, _, _⟩ := hM.nodeOk h2
  obtain ⟨_, e1⟩ := ringAt_at (rings := rings) b1 b2
  obtain ⟨_, e2⟩ := ringAt_at (rings := rings) a1 a2
  obtain ⟨_, e3⟩ := rowAt_at (shared := shared) a3 a4
  have hg := halfG_pos hM h4
  obtain ⟨g, o, hgo⟩ := halfG_ne h4
  have hfar := far_pos hM.1 hIs h2 (Ne.symm h3)
  have hne : p.toNat ≠ q.toNat := by omega
  have hsz := hM.2.1
  have e2' : (set_ rings q (halfR (ringAt rings q)))[p.toNat]? = some (ringAt rings p) := by
    unfold set_
    rw [List.getElem?_set_ne (by omega)]; exact e2
  have hh : (halfG (ringAt rings q)).headD 0 = g := by rw [hgo]; rfl
  have hperm : (g :: allL (takeS t size rings shared on p q).2.2.1 (takeS t size rings shared on p q).2.2.2.1).Perm (allL rings shared) := by
    rw [List.perm_iff_count]
    intro a
    have c1 := count_set (f := ringAll) (a := a) (x := halfR (ringAt rings q)) e1
    have c2 := count_set (f := ringAll) (a := a) (x := ((0, ((halfG (ringAt rings q)).drop 1).take size.toNat) : Ring)) e2'
    have c3 := count_set (f := id) (a := a) (x := ((halfG (ringAt rings q)).drop 1).drop size.toNat) e3
    have c4 := half_count (ringAt rings q) a
    have c5 : (o.take size.toNat).count a + (o.drop size.toNat).count a = o.count a := by rw [← List.count_append, List.take_append_drop]
    rw [hT.2.2.1] at c2
    rw [hT.2.2.2] at c3
    simp only [takeS, allL, List.count_cons, List.count_append]
    rw [hgo] at c2 c3 c4 ⊢
    simp only [List.drop_one, List.tail_cons, id] at c2 c3 ⊢
    have c6 : ringAll (0, o.take size.toNat) = o.take size.toNat := by unfold ringAll; rw [if_pos rfl]
    rw [c6] at c2
    rw [List.count_cons] at c4
    unfold set_ at c2 ⊢
    simp only [List.count_nil] at c2 c3
    change (((rings.set q.toNat (halfR (ringAt rings q))).set p.toNat (0, o.take size.toNat)).flatMap ringAll).count a + 0 = _ at c2
    omega
  rw [← hh] at hperm
  refine ⟨rfl, rfl, rfl, hg, hfar.1, h5, hperm, hM.of_perm (by simp only [takeS, set_at]) (by simp only [takeS, set_at]) hperm fun r x hx => ?_⟩
  simp only [takeS] at hx
  unfold set_ at hx
  by_cases hrp : p.toNat = r
  · rw [← hrp, List.getElem?_set_self (by rw [List.length_set]; omega)] at hx
    injection hx with hx
    subst hx
    refine ⟨.inl ?_, .inl ?_⟩
    · simp only [List.length_take]; omega
    · rw [← hrp, show ((p.toNat : Nat) : Int) = p by omega]; exact hT.2.1
  · rw [List.getElem?_set_ne hrp] at hx
    by_cases hrq : q.toNat = r
    · rw [← hrq, List.getElem?_set_self (by omega)] at hx
      injection hx with hx
      have hq0 := hM.2.2.2.2.2.2.2.1 q.toNat _ e1
      subst hx
      refine ⟨?_, .inl ?_⟩
      · have := hq0.1.2
        unfold halfR
        split
        · exact .inr (by simp)
        · simp only [List.length_drop]; omega
      · rw [← hrq]; exact hq0.2.resolve_right h4
    · rw [List.getElem?_set_ne hrq] at hx
      have := hM.2.2.2.2.2.2.2.1 r x hx
      exact ⟨this.1.2, this.2⟩
theorem row_took {t : Tree} {size : Int} {rings : List Ring} {shared : List (List Int)} {on n g f : Int} {l : List Int} (hM : MayP t size rings shared on) (h0 : 0 ≤ n) (h1 : n < shared.length) (hr : rowAt shared n = g :: l) (hf : 3 ≤ f) : Took t size rings shared on f (t, size, rings, set_ shared n l, on, g, 3) := by
  obtain ⟨_, e3⟩ := rowAt_at (shared := shared) h0 h1
  rw [hr] at e3
  have hg : 0 < g := hM.row_pos (n := n) (by rw [hr]; exact List.mem_cons_self)
  have hperm : (g :: allL rings (set_ shared n l)).Perm (allL rings shared) := by
    rw [List.perm_iff_count]
    intro a
    have c3 := count_set (f := id) (a := a) (x := l) e3
    simp only [allL, List.count_cons, List.count_append]
    unfold set_
    simp only [id, List.count_cons] at c3
    change ((shared.set n.toNat l).flatMap id).count a + _ = (shared.flatMap id).count a + _ at c3
    omega
  refine ⟨rfl, rfl, rfl, hg, by show (1 : Int) ≤ 3; omega, hf, hperm, hM.of_perm rfl (by rw [set_at]) hperm fun r x hx => ?_⟩
  have := hM.2.2.2.2.2.2.2.1 r x hx
  exact ⟨this.1.2, this.2⟩
theorem rowI_bound {shared : List (List Int)} {node : Int} {i : Nat} (h : 0 < shared.length) : 0 ≤ rowI shared node i ∧ rowI shared node i < shared.length := by
  have hlt : (node.toNat + i) % shared.length < shared.length := Nat.mod_lt _ h
  unfold rowI
  omega
theorem steal_took (t : Tree) (size : Int) (rings : List Ring) (shared : List (List Int)) (on p f : Int) : stealS t size rings shared on p f = none7 t size rings shared on ∨ Took t size rings shared on f (stealS t size rings shared on p f) := by
  rcases stealS_or t size rings shared on p f with e | ⟨q, l, hT, hv, e⟩ | ⟨hf, hT, _, e⟩
  · exact .inl e
  · rw [e]; exact .inr (take_took hT (by rw [hv]; exact List.mem_cons_self))
  · rw [e]
    obtain ⟨_, _, a3, a4⟩ := hT.1.nodeOk (isP_on hT.1 hT.2.1)
    rcases fromRow_or t size rings shared on (nodeOf t p) with ⟨e, _⟩ | ⟨i, g, l, h1, h2, h3, e⟩
    · exact .inl e
    · rw [e]
      obtain ⟨r1, r2⟩ := rowI_bound (shared := shared) (node := nodeOf t p) (i := i) (by omega)
      exact .inr (row_took hT.1 r1 r2 h3 hf)
theorem none_all {t : Tree} {size : Int} {rings : List Ring} {shared : List (List Int)} {on p : Int} (hT : ThP t size rings shared on p) (h : (stealS t size rings shared on p 3).2.2.2.2.2.1 = 0) : allL rings shared = [] := by
  have hM := hT.1
  have hIs := isP_on hM hT.2.1
  obtain ⟨a1, a2, a3, a4⟩ := hM.nodeOk hIs
  have hv : victL t rings p 3 = [] := by
    cases hv : victL t rings p 3 with
    | nil => rfl
    | cons q l =>
      have e : stealS t size rings shared on p 3 = takeS t size rings shared on p q := by unfold stealS; rw [if_pos hT, hv]
      have := (take_took hT (q := q) (f := 3) (by rw [hv]; exact List.mem_cons_self)).2.2.2.1
      rw [e] at h
      omega
  have e : stealS t size rings shared on p 3 = fromRow t size rings shared on (nodeOf t p) := by unfold stealS; rw [if_pos hT, hv]; exact if_pos (by omega)
  rw [e] at h
  have hrl : rings.length = nprocs t := hM.2.2.2.1
  unfold allL
  rw [List.append_eq_nil_iff]
  constructor
  · rw [List.flatMap_eq_nil_iff]
    intro x hx
    obtain ⟨k, hk⟩ := List.mem_iff_getElem?.1 hx
    have hkl := (List.getElem?_eq_some_iff.1 hk).1
    have hx' : ringAt rings (k : Int) = x := by unfold ringAt; rw [show ((k : Int)).toNat = k from rfl, hk]; rfl
    rw [← hx']
    by_cases hkp : (k : Int) = p
    · rw [hkp]; exact hT.2.2.1
    · refine Decidable.byContradiction fun hne => ?_
      have := mem_victL_of (rings := rings) (f := 3) hM.1 hIs (q := (k : Int)) ⟨by omega, by omega⟩ hkp hne far_le3
      rw [hv] at this
      simp at this
  · rw [List.flatMap_eq_nil_iff]
    intro x hx
    obtain ⟨k, hk⟩ := List.mem_iff_getElem?.1 hx
    have hkl := (List.getElem?_eq_some_iff.1 hk).1
    have hx' : rowAt shared (k : Int) = x := by unfold rowAt; rw [show ((k : Int)).toNat = k from rfl, hk]; rfl
    show x = []
    rw [← hx']
    rcases fromRow_or t size rings shared on (nodeOf t p) with ⟨_, hall⟩ | ⟨i, g, l, h1, h2, h3, e⟩
    · obtain ⟨n, hn⟩ : ∃ n : Nat, nodeOf t p = n := ⟨(nodeOf t p).toNat, by omega⟩
      by_cases hkn : k = n
      · rw [hkn, ← hn]; exact hT.2.2.2
      · have hmod : (n + (if n ≤ k then k - n else k + shared.length - n)) % shared.length = k := by
          split
          · rw [show n + (k - n) = k by omega, Nat.mod_eq_of_lt hkl]
          · rw [show n + (k + shared.length - n) = k + shared.length by omega, Nat.add_mod_right, Nat.mod_eq_of_lt hkl]
        have := hall (if n ≤ k then k - n else k + shared.length - n) (by split <;> omega) (by split <;> omega)
        unfold rowI at this
        rw [hn] at this
        simp only [Int.toNat_natCast] at this
        rw [hmod] at this
        exact this
    · rw [e] at h
      obtain ⟨r1, r2⟩ := rowI_bound (shared := shared) (node := nodeOf t p) (i := i) (by omega)
      have := hM.row_pos (n := rowI shared (nodeOf t p) i) (g := g) (by rw [h3]; exact List.mem_cons_self)
      have h' : g = 0 := h
      omega
open Classical in
theorem stealSome_pure (t : Tree) (size : Int) (rings : List Ring) (shared : List (List Int)) (on p f : Int) (ho : Iu64 on) (hf : Iu8 f) : law17_StealSome t size rings shared on p f = some true := by
  unfold law17_StealSome
  rw [shown, ref15_Few_eq]
  simp only [Option.bind_some]
  by_cases hF : FewP t rings shared
  case neg => rw [decide_eq_false hF]; rfl
  rw [decide_eq_true hF]
  obtain ⟨hl, hs, hb⟩ := hF.sm
  rw [ref17_Thief_eq hl ho size hs hb]
  by_cases hT : ThP t size rings shared on p
  case neg => rw [decide_eq_false hT]; rfl
  rw [decide_eq_true hT]
  have hM := hT.1
  obtain ⟨F, hF2⟩ : ∃ F, wi64 (f.tmod 4) = F := ⟨_, rfl⟩
  have hs9 := hs.steal t size on p F
  simp only [Option.bind_some, Bool.not_true, cond_false, law17_made_eq t size hs, steal_Steal_eq hl ho size hs hb, runs_All_eq hs, hF2]
  -- all of it, as far as all
  have h8 : (stealS t size rings shared on p 3).2.2.2.2.2.1 = 0 ↔ allL rings shared = [] := by
    constructor
    · exact none_all hT
    · intro h
      rcases steal_took t size rings shared on p 3 with e | e
      · rw [e]; rfl
      · have := e.2.2.2.2.2.2.1.length_eq
        rw [h] at this
        simp at this
  have h8f : (stealS t size rings shared on p 3).2.2.2.2.2.1 = 0 ↔ (stealS t size rings shared on p 3).2.2.2.2.2.2 = -1 := by
    rcases steal_took t size rings shared on p 3 with e | e
    · rw [e]; exact ⟨fun _ => rfl, fun _ => rfl⟩
    · have h1 := e.2.2.2.1
      have h2 := e.2.2.2.2.1
      omega
  have k1 : ((!decide ((stealS t size rings shared on p 3).2.2.2.2.2.1 = 0)) == decide (0 < ((allL rings shared).length : Int))) = true := by
    by_cases h : allL rings shared = []
    · rw [decide_eq_true (h8.2 h), h]; rfl
    · rw [decide_eq_false (fun hh => h (h8.1 hh)), decide_eq_true (show 0 < ((allL rings shared).length : Int) by have := List.length_pos_iff.2 h; omega)]; rfl
  have k2 : (decide ((stealS t size rings shared on p 3).2.2.2.2.2.1 = 0) == decide ((stealS t size rings shared on p 3).2.2.2.2.2.2 = -1)) = true := by
    by_cases h : (stealS t size rings shared on p 3).2.2.2.2.2.1 = 0
    · rw [decide_eq_true h, decide_eq_true (h8f.1 h)]; rfl
    · rw [decide_eq_false h, decide_eq_false (fun hh => h (h8f.2 hh))]; rfl
  rw [k1, k2]
  simp only [Bool.not_true, cond_false]
  rcases steal_took t size rings shared on p F with e | e
  · rw [e]
    unfold none7
    simp only [decide_true, Bool.not_true, cond_false, cond_true, Option.bind_some, runs_All_eq hs, ref01_Ints_eq (show (allL rings shared).length ≤ 100000000 by omega)]
  · obtain ⟨e1, e2, e3, e4, e5, e6, e7, e8⟩ := e
    generalize stealS t size rings shared on p F = r at *
    obtain ⟨r1, r2, r3, r4, r5, r6, r7⟩ := r
    simp only at e1 e2 e3 e4 e5 e6 e7 e8 hs9
    subst e1 e2 e3
    have hlen := e7.length_eq
    have hne : allL rings shared ≠ [] := fun h => by rw [h] at hlen; simp at hlen
    rw [List.length_cons] at hlen
    simp only [decide_eq_false (show ¬ r6 = 0 by omega), Bool.not_false, cond_true, cond_false, decide_eq_false (fun hh => hne (h8.1 hh)), Option.bind_some, decide_eq_true e5, decide_eq_true e6, runs_May_eq hl ho _ hs9 (show (allL r3 r4).length ≤ 1000000 by omega), decide_eq_true e8, runs_All_eq hs9]
    rw [app_of' (show [r6].length + (allL r3 r4).length ≤ 1000000000 by simp; omega)]
    simp only [Option.bind_some, List.singleton_append]
    rw [ref04_Bag_perm e7 (by rw [List.length_cons]; omega)]
    rfl

end Go.PM
