/- A part of a layer between the model's runs and plain values: steps of code simulate plain functions; no program is named here. -/
import Derived.Test.YtidgbllladaahaaPmN
set_option linter.all false
namespace Go.PM
open Go Go.RowKit

/-! ### Calls that are handed objects -/
/-- Different names have different old names. -/
def renInj : List (Nat × Nat) → Bool
  | [] => true
  | (_, b) :: r => (r.all fun p => !Nat.beq p.2 b) && renInj r
theorem renInj_inj {ps : List (Nat × Nat)} (h : renInj ps = true) : ∀ {a a' b : Nat}, (a, b) ∈ ps → (a', b) ∈ ps → a = a' := by
  induction ps with
  | nil => intro a a' b h1; simp at h1
  | cons p r ih =>
    obtain ⟨x, y⟩ := p
    simp only [renInj, Bool.and_eq_true, List.all_eq_true, Bool.not_eq_true'] at h
    intro a a' b h1 h2
    simp only [List.mem_cons, Prod.mk.injEq] at h1 h2
    rcases h1 with ⟨rfl, rfl⟩ | h1 <;> rcases h2 with ⟨rfl, e⟩ | h2
    · rfl
    · have := h.1 _ h2; simp at this
    · subst e; have := h.1 _ h1; simp at this
    · exact ih h.2 h1 h2

/-- The blocks that bear the names that are handed on. -/
def Tie.lent (τ : Tie) (ps : List (Nat × Nat)) (k : Nat) : Prop := ∃ n, inDom ps n = true ∧ τ.ρ (PM.ren ps n) = some k

theorem lent_S {E : Env} {τ : Tie} {ps : List (Nat × Nat)} {w : World} {k : Nat} (h : E.S τ k) : Env.S ⟨w, 0, E.S τ, τ.lent ps, τ.ren ps⟩ (τ.ren ps) k :=
  ⟨.inl h, fun _ hn => h.2 _ (Tie.ren_ρ hn).2⟩

/-- The state that a callee begins in. -/
theorem SimAt.lendIn {E : Env} {τ : Tie} {σ pre : St} {a : Act} {w : World} (h : SimAt E τ σ a w) {ps : List (Nat × Nat)} (hinj : renInj ps = true) (hin : namesIn ps pre = true) (hag : agreeR ps σ pre) (hnt : noTmp pre = true) :
    SimAt ⟨w, 0, E.S τ, τ.lent ps, τ.ren ps⟩ (τ.ren ps) pre ⟨#[], []⟩ w where
  dfr := rfl
  nsz := rfl
  lim := Nat.zero_le _
  tie := .refl _
  os := rfl
  tape := rfl
  output := ⟨rfl, Nat.le_refl _⟩
  grow := Nat.le_refl _
  keep _ _ _ := rfl
  inj n m k h1 h2 := by
    obtain ⟨d1, q1⟩ := Tie.ren_ρ h1
    obtain ⟨d2, q2⟩ := Tie.ren_ρ h2
    have := h.inj _ _ _ q1 q2
    have m1 := inDom_mem d1
    rw [this] at m1
    exact renInj_inj hinj m1 (inDom_mem d2)
  acc n k h1 := by
    obtain ⟨d1, q1⟩ := Tie.ren_ρ h1
    exact ⟨(h.acc _ _ q1).1, .inr ⟨n, d1, q1⟩⟩
  get l := by
    by_cases hg : look pre l = .gone
    · rw [hg]; cases l <;> exact trivial
    have hmem := look_mem (l := l) (σ := pre) rfl hg
    have hl := agreeR_mem hag _ _ hmem
    have hd := List.all_eq_true.1 hin _ hmem
    simp only [List.all_eq_true, List.mem_append] at hd
    have htmp : ∀ t, l ≠ .tmp t := by
      rintro t rfl
      exact hg (noTmp_look hnt t)
    have h0 := hl _ _ _ _ _ (h.get (l.map (PM.ren ps)))
    have h1 : Holds w (E.S τ) (τ.ren ps) ⟨#[], []⟩ l (look pre l) := Holds.map (a := a) htmp (fun n hn => Tie.ren_via (hd n (.inl hn))) (fun n hn => Tie.ren_via (hd n (.inr hn))) h0
    exact h1.step (fun k _ hk => ⟨lent_S hk, rfl⟩) (fun _ _ => ⟨rfl, rfl⟩) (fun _ _ => ⟨rfl, rfl, rfl, rfl, fun _ _ => rfl⟩)

/-- All that is said of a name stands in the list. -/
def covers (pre : List (Loc × Val)) (wl : List Loc) (n : Nat) : Bool :=
  (wl.any fun l => l.same (.row n)) && (pre.any fun p => match p with
    | (.row m, .r _ _ _) => Nat.beq m n
    | _ => false) ||
  (wl.any fun l => l.same (.obj n)) && (pre.any fun p => match p with
    | (.obj m, .o (.len K)) => Nat.beq m n && (List.range K).all fun j => wl.any fun l => l.same (.cell n j)
    | (.obj m, .o (.map _ _)) => Nat.beq m n
    | _ => false)

theorem covers_spec {E : Env} {τ : Tie} {σ : St} {a : Act} {w : World} (h : SimAt E τ σ a w) {pre : List (Loc × Val)} (hr : agree σ pre) {wl : List Loc} {n : Nat} (hc : covers pre wl n = true) {l : Loc} (hn : n ∈ l.names) (hg : look σ l ≠ .gone) : l ∈ wl := by
  have hany : ∀ k : Loc, (wl.any fun l => l.same k) = true → k ∈ wl := fun k hk => by
    obtain ⟨l', hl', hs⟩ := List.any_eq_true.1 hk
    rw [Loc.same_iff] at hs
    exact hs ▸ hl'
  simp only [covers, Bool.or_eq_true, Bool.and_eq_true] at hc
  rcases hc with ⟨hw, hp⟩ | ⟨hw, hp⟩
  · obtain ⟨⟨l', x⟩, hmem, hp⟩ := List.any_eq_true.1 hp
    have hl' := agree_iff.1 hr _ hmem
    simp only at hl' hp
    cases l' with
    | row m =>
      cases x with
      | r _ _ _ =>
        obtain rfl : m = n := Nat.eq_of_beq_eq_true hp
        have hk := h.get (.row m)
        rw [hl'] at hk
        by_cases e : l = .row m
        · rw [e]; exact hany _ hw
        · exact absurd ((h.get l).rowOnly hk.1 hn e) hg
      | _ => cases hp
    | _ => cases x <;> cases hp
  · obtain ⟨⟨l', x⟩, hmem, hp⟩ := List.any_eq_true.1 hp
    have hl' := agree_iff.1 hr _ hmem
    simp only at hl' hp
    cases l' with
    | obj m =>
      cases x with
      | o x =>
        have hk := h.get (.obj m)
        rw [hl'] at hk
        obtain ⟨hκ, hρ, o, ho, hrep⟩ := hk
        have hm : m = n := by
          cases x with
          | len K => simp only [Bool.and_eq_true] at hp; exact Nat.eq_of_beq_eq_true hp.1
          | map ag es => exact Nat.eq_of_beq_eq_true hp
        subst hm
        have hl2 := h.get l
        cases l with
        | tmp t => simp [Loc.names] at hn
        | row m' =>
          obtain rfl : m = m' := by simpa [Loc.names] using hn
          generalize look σ (.row m) = y at hl2 hg
          cases y with
          | r _ _ _ => rw [hl2.1] at hκ; cases hκ
          | gone => exact absurd rfl hg
          | _ => exact hl2.elim
        | obj m' =>
          obtain rfl : m = m' := by simpa [Loc.names] using hn
          exact hany _ hw
        | cell m' j =>
          obtain rfl : m = m' := by simpa [Loc.names] using hn
          generalize look σ (.cell m j) = y at hl2 hg
          cases y with
          | c y =>
            obtain ⟨_, _, _, u, hu, _⟩ := hl2
            simp only [World.cell?, ho] at hu
            cases x with
            | len K =>
              simp only [Bool.and_eq_true] at hp
              cases o with
              | cells vs t fr =>
                simp only [RepO] at hrep
                have hj : j < K := by
                  simp at hu
                  rw [← hrep]
                  exact (Array.getElem?_eq_some_iff.1 hu).1
                exact hany _ (List.all_eq_true.1 hp.2 j (List.mem_range.2 hj))
              | _ => exact hrep.elim
            | map ag es =>
              cases o with
              | map _ _ => simp at hu
              | _ => exact hrep.elim
          | gone => exact absurd rfl hg
          | _ => exact hl2.elim
      | _ => cases hp
    | _ => cases x <;> cases hp

def sw (ps : List (Nat × Nat)) : List (Nat × Nat) := ps.map fun p => (p.2, p.1)
theorem mem_sw {ps : List (Nat × Nat)} {a b : Nat} : (a, b) ∈ sw ps ↔ (b, a) ∈ ps := by
  simp only [sw, List.mem_map, Prod.mk.injEq]
  constructor
  · rintro ⟨⟨x, y⟩, h, rfl, rfl⟩; exact h
  · intro h; exact ⟨_, h, rfl, rfl⟩
theorem dom_of_mem {ps : List (Nat × Nat)} {a b : Nat} (h : (a, b) ∈ ps) : inDom ps a = true := List.any_eq_true.2 ⟨_, h, by simp⟩
/-- Names handed on: each once, on either side; the callee's are from 1000000 on. -/
def lendOk (ps : List (Nat × Nat)) : Bool := renInj ps && renInj (sw ps) && ps.all fun p => Nat.ble 1000000 p.1 && Nat.blt p.1 2000000
/-- What comes back: new names, or those that were handed on. -/
def backOk (ps qs : List (Nat × Nat)) : Bool := renInj qs && qs.all fun q => (Nat.ble 2000000 q.2 && Nat.blt q.1 1000000) || ps.any fun p => Nat.beq p.1 q.2 && Nat.beq p.2 q.1

/-- What a call of objects leaves: the objects and what is new, under the caller's names. -/
theorem SimAt.calledObj {E : Env} {τ : Tie} {σ : St} {a : Act} {w w' : World} (h : SimAt E τ σ a w) {ps : List (Nat × Nat)} {τ' : Tie} {post post' : St} {kl : List Loc} {a' : Act} {qs : List (Nat × Nat)}
    (hps : lendOk ps = true) (hc : SimAt ⟨w, 0, E.S τ, τ.lent ps, τ.ren ps⟩ τ' post a' w') (hok : backOk ps qs = true)
    (hfr : ∀ n b, (n, b) ∈ qs → 2000000 ≤ b → Fresh n σ)
    (hcov : ∀ c n, (c, n) ∈ ps → ∀ l, n ∈ l.names → look σ l ≠ .gone → l ∈ post'.map (·.1) ++ kl)
    (hin : namesIn qs post' = true) (hag : agreeR qs post post') (hnt : noTmp post' = true) {out' : M} {v : Value} (hon : out'.names.all (inDom qs) = true)
    (hv : RepM w' (Env.S ⟨w, 0, E.S τ, τ.lent ps, τ.ren ps⟩ τ') τ' (out'.map (PM.ren qs)) v) :
    ∃ τ'', SimAt E τ'' (post' ++ (kl.map fun l => (l, Val.gone)) ++ σ) a w' ∧ RepM w' (E.S τ'') τ'' out' v := by
  simp only [lendOk, Bool.and_eq_true] at hps
  obtain ⟨⟨hp1, hp2⟩, hp3⟩ := hps
  simp only [backOk, Bool.and_eq_true] at hok
  obtain ⟨hq1, hq2⟩ := hok
  have hrange : ∀ c n, (c, n) ∈ ps → 1000000 ≤ c ∧ c < 2000000 := fun c n hm => by
    have := List.all_eq_true.1 hp3 _ hm
    simpa using this
  have hren : ∀ c n, (c, n) ∈ ps → PM.ren ps c = n := fun c n hm => renInj_inj hp2 (mem_sw.2 (inDom_mem (dom_of_mem hm))) (mem_sw.2 hm)
  have hsw : ∀ n, inDom (sw ps) n = true → (PM.ren (sw ps) n, n) ∈ ps := fun n hn => mem_sw.1 (inDom_mem hn)
  have hren' : ∀ c n, (c, n) ∈ ps → inDom (sw ps) n = true ∧ PM.ren (sw ps) n = c := fun c n hm => by
    have hd := dom_of_mem (mem_sw.2 hm)
    exact ⟨hd, renInj_inj hp1 (hsw n hd) hm⟩
  let isNew : Nat → Bool := fun n => inDom qs n && Nat.ble 2000000 (PM.ren qs n)
  let τ'' : Tie := { ρ := fun n => bif isNew n then τ'.ρ (PM.ren qs n) else bif inDom (sw ps) n then τ'.ρ (PM.ren (sw ps) n) else τ.ρ n, β := fun n => bif isNew n then τ'.β (PM.ren qs n) else τ.β n, ν := fun n => bif isNew n then τ'.ν (PM.ren qs n) else τ.ν n, κ := fun n => bif isNew n then τ'.κ (PM.ren qs n) else τ.κ n }
  have hqmem : ∀ n, inDom qs n = true → isNew n = false → (PM.ren qs n, n) ∈ ps := fun n hd hn => by
    have hm := inDom_mem hd
    have := List.all_eq_true.1 hq2 _ hm
    simp only [Bool.or_eq_true, Bool.and_eq_true] at this
    simp only [isNew, hd, Bool.true_and] at hn
    rcases this with h1 | h1
    · rw [h1.1] at hn; cases hn
    · obtain ⟨⟨x, y⟩, hmem, hb⟩ := List.any_eq_true.1 h1
      rw [Bool.and_eq_true] at hb
      have e1 := Nat.eq_of_beq_eq_true hb.1
      have e2 := Nat.eq_of_beq_eq_true hb.2
      simp only at e1 e2
      subst e1 e2
      exact hmem
  have hnewlt : ∀ n, isNew n = true → n < 1000000 ∧ (n, PM.ren qs n) ∈ qs ∧ 2000000 ≤ PM.ren qs n := fun n hn => by
    simp only [isNew, Bool.and_eq_true] at hn
    have hm := inDom_mem hn.1
    have h2 : 2000000 ≤ PM.ren qs n := by simpa using hn.2
    have := List.all_eq_true.1 hq2 _ hm
    simp only [Bool.or_eq_true, Bool.and_eq_true] at this
    refine ⟨?_, hm, h2⟩
    rcases this with h1 | h1
    · simpa using h1.2
    · obtain ⟨⟨x, y⟩, hmem, hb⟩ := List.any_eq_true.1 h1
      rw [Bool.and_eq_true] at hb
      have e1 := Nat.eq_of_beq_eq_true hb.1
      simp only at e1
      subst e1
      have := (hrange _ _ hmem).2
      omega
  have hkept : ∀ c n, (c, n) ∈ ps → τ'.β c = τ.β n ∧ τ'.ν c = τ.ν n ∧ τ'.κ c = τ.κ n ∧ ∀ k, τ'.ρ c = some k → τ.ρ n = some k := fun c n hm => by
    obtain ⟨h1, h2⟩ := hrange c n hm
    have hd := dom_of_mem hm
    obtain ⟨k1, k2, k3, k4⟩ := hc.tie c h1 h2
    simp only [Tie.ren, hd, cond_true, hren c n hm] at k1 k2 k3 k4
    exact ⟨k1, k2, k3, k4⟩
  have hvia : ∀ n, inDom qs n = true → τ'.via τ'' (PM.ren qs) n := fun n hn => by
    cases hnw : isNew n with
    | true => simp [Tie.via, τ'', hnw]
    | false =>
      have hm := hqmem n hn hnw
      obtain ⟨d1, d2⟩ := hren' _ _ hm
      obtain ⟨k1, k2, k3, _⟩ := hkept _ _ hm
      refine ⟨?_, ?_, ?_, ?_⟩
      · simp only [τ'', hnw, cond_false]; exact k1.symm
      · simp only [τ'', hnw, cond_false]; exact k2.symm
      · simp only [τ'', hnw, cond_false]; exact k3.symm
      · simp only [τ'', hnw, cond_false, d1, cond_true, d2]
  have hold : ∀ n, isNew n = false → τ''.β n = τ.β n ∧ τ''.ν n = τ.ν n ∧ τ''.κ n = τ.κ n := fun n hn => by simp [τ'', hn]
  have hlent : ∀ k, τ.lent ps k → ∃ c n, (c, n) ∈ ps ∧ τ.ρ n = some k := fun k hk => by
    obtain ⟨c, hd, hr⟩ := hk
    exact ⟨c, _, inDom_mem hd, hr⟩
  have hρ : ∀ n k, τ''.ρ n = some k → (isNew n = true ∧ τ'.ρ (PM.ren qs n) = some k) ∨ (isNew n = false ∧ ∃ c, (c, n) ∈ ps ∧ τ'.ρ c = some k) ∨ (isNew n = false ∧ inDom (sw ps) n = false ∧ τ.ρ n = some k) := fun n k hk => by
    cases hnw : isNew n with
    | true => left; exact ⟨rfl, by simpa [τ'', hnw] using hk⟩
    | false =>
      right
      cases hd : inDom (sw ps) n with
      | true => left; exact ⟨rfl, _, hsw n hd, by simpa [τ'', hnw, hd] using hk⟩
      | false => right; exact ⟨rfl, rfl, by simpa [τ'', hnw, hd] using hk⟩
  have hother : ∀ n k, inDom (sw ps) n = false → τ.ρ n = some k → ¬ τ.lent ps k := fun n k hd hr hl => by
    obtain ⟨c, m, hm, hr'⟩ := hlent k hl
    have := h.inj _ _ _ hr hr'
    subst this
    rw [(hren' _ _ hm).1] at hd
    cases hd
  have hS : ∀ k, Env.S ⟨w, 0, E.S τ, τ.lent ps, τ.ren ps⟩ τ' k → E.S τ'' k := fun k hk => by
    refine ⟨?_, fun n hn => ?_⟩
    · rcases hk.1 with h1 | h1 | h1
      · exact h1.1
      · obtain ⟨c, m, _, hr⟩ := hlent k h1
        rcases (h.acc m k hr).2 with h2 | h2
        · exact .inr (.inr h2)
        · exact .inr (.inl h2)
      · exact .inr (.inr (Nat.le_trans h.grow h1))
    · rcases hρ n k hn with ⟨_, h1⟩ | ⟨_, c, _, h1⟩ | ⟨_, hd, h1⟩
      · exact hk.2 _ h1
      · exact hk.2 _ h1
      · rcases hk.1 with h3 | h3 | h3
        · exact h3.2 n h1
        · exact hother n k hd h1 h3
        · have := (h.acc n k h1).1
          have h4 : w.heap.size ≤ k := h3
          omega
  refine ⟨τ'', ?_, ?_⟩
  · refine h.move hc.os hc.tape hc.output hc.grow (fun k hk hn => hc.keep k hk (fun hl => by
      obtain ⟨c, m, _, hr⟩ := hlent k hl
      exact hn m hr)) ?_ ?_ ?_ ?_ ?_
    · intro n m k h1 h2
      have hx : ∀ x n, τ'.ρ x = some k → inDom (sw ps) n = false → τ.ρ n = some k → False := fun x n hx hd hr => by
        rcases (hc.acc x k hx).2 with h3 | h3
        · have := (h.acc n k hr).1
          have h4 : w.heap.size ≤ k := h3
          omega
        · exact hother n k hd hr h3
      rcases hρ n k h1 with ⟨d1, q1⟩ | ⟨_, c1, m1, q1⟩ | ⟨_, d1, q1⟩ <;> rcases hρ m k h2 with ⟨d2, q2⟩ | ⟨_, c2, m2, q2⟩ | ⟨_, d2, q2⟩
      · have := hc.inj _ _ _ q1 q2
        have e1 := (hnewlt n d1).2.1
        rw [this] at e1
        exact renInj_inj hq1 e1 (hnewlt m d2).2.1
      · have := hc.inj _ _ _ q1 q2
        have := (hnewlt n d1).2.2
        have := (hrange _ _ m2).2
        omega
      · exact (hx _ _ q1 d2 q2).elim
      · have := hc.inj _ _ _ q1 q2
        have := (hnewlt m d2).2.2
        have := (hrange _ _ m1).2
        omega
      · have := hc.inj _ _ _ q1 q2
        subst this
        exact renInj_inj hp2 (mem_sw.2 m1) (mem_sw.2 m2)
      · exact (hx _ _ q1 d2 q2).elim
      · exact (hx _ _ q2 d1 q1).elim
      · exact (hx _ _ q2 d1 q1).elim
      · exact h.inj n m k q1 q2
    · intro n k h1
      rcases hρ n k h1 with ⟨_, q⟩ | ⟨_, _, _, q⟩ | ⟨_, _, q⟩
      · exact (hc.acc _ _ q).1
      · exact (hc.acc _ _ q).1
      · exact Nat.lt_of_lt_of_le (h.acc n k q).1 hc.grow
    · intro n k h1 hlt
      rcases hρ n k h1 with ⟨_, q⟩ | ⟨_, c, hm, q⟩ | ⟨_, _, q⟩
      · rcases (hc.acc _ _ q).2 with h3 | h3
        · have h4 : w.heap.size ≤ k := h3
          omega
        · obtain ⟨_, m, _, hr⟩ := hlent k h3
          exact ⟨m, hr⟩
      · exact ⟨n, (hkept c n hm).2.2.2 k q⟩
      · exact ⟨n, q⟩
    · intro n hn _
      have hnn : isNew n = false := by
        rw [Bool.eq_false_iff]
        intro e
        have := (hnewlt n e).1
        omega
      obtain ⟨h2, h3, h4⟩ := hold n hnn
      refine ⟨h2, h3, h4, fun k hk => ?_⟩
      rcases hρ n k hk with ⟨q, _⟩ | ⟨_, c, hm, q⟩ | ⟨_, _, q⟩
      · rw [hnn] at q; cases q
      · exact (hkept c n hm).2.2.2 k q
      · exact q
    · intro hs l
      rw [List.append_assoc, look_append]
      cases hw : has l post' with
      | true =>
        simp only [cond_true]
        by_cases hg : look post' l = .gone
        · rw [hg]; cases l <;> exact trivial
        have hmem := look_mem (l := l) (σ := post') rfl hg
        have hl := agreeR_mem hag _ _ hmem
        have hd := List.all_eq_true.1 hin _ hmem
        simp only [List.all_eq_true, List.mem_append] at hd
        have htmp : ∀ t, l ≠ .tmp t := by
          rintro t rfl
          exact hg (noTmp_look hnt t)
        have h0 := hl _ _ _ _ _ (hc.get (l.map (PM.ren qs)))
        have h1 : Holds w' _ τ'' a l (look post' l) := Holds.map (a := a') htmp (fun n hn => hvia n (hd n (.inl hn))) (fun n hn => hvia n (hd n (.inr hn))) h0
        exact h1.step (fun k _ hk => ⟨hS k hk, rfl⟩) (fun _ _ => ⟨rfl, rfl⟩) (fun _ _ => ⟨rfl, rfl, rfl, rfl, fun _ _ => rfl⟩)
      | false =>
        simp only [cond_false]
        rw [look_append]
        cases hw2 : has l (kl.map fun l => (l, Val.gone)) with
        | true =>
          simp only [cond_true]
          have : look (kl.map fun l => (l, Val.gone)) l = .gone := by
            by_cases hg : look (kl.map fun l => (l, Val.gone)) l = .gone
            · exact hg
            · have hmem := look_mem (l := l) rfl hg
              obtain ⟨_, _, e⟩ := List.mem_map.1 hmem
              injection e with _ e
              exact e.symm
          rw [this]; cases l <;> exact trivial
        | false =>
          simp only [cond_false]
          by_cases hg : look σ l = .gone
          · rw [hg]; cases l <;> exact trivial
          have hnn : ∀ n, n ∈ l.names ∨ n ∈ (look σ l).names → isNew n = false := fun n hn => by
            rw [Bool.eq_false_iff]
            intro e
            obtain ⟨_, e1, e2⟩ := hnewlt n e
            rcases hn with hn | hn
            · exact hg (look_fresh (hfr _ _ e1 e2) hn)
            · exact names_fresh (hfr _ _ e1 e2) l hn
          have hnp : ∀ n, n ∈ l.names → inDom (sw ps) n = false := fun n hn => by
            rw [Bool.eq_false_iff]
            intro e
            have hmem := hcov _ _ (hsw n e) l hn hg
            rcases List.mem_append.1 hmem with hm | hm
            · rw [has_iff.2 hm] at hw; cases hw
            · have : has l (kl.map fun l => (l, Val.gone)) = true := has_iff.2 (by rw [List.map_map]; simpa using hm)
              rw [this] at hw2; cases hw2
          refine (h.get l).step hs (fun n hn => ?_) (fun n hn => ?_)
          · obtain ⟨h2, h3, _⟩ := hold n (hnn n (.inr hn))
            exact ⟨h2, h3⟩
          · obtain ⟨h2, h3, h4⟩ := hold n (hnn n (.inl hn))
            refine ⟨h2, h3, h4, by simp [τ'', hnn n (.inl hn), hnp n hn], fun k hk => hc.keep k (h.acc n k hk).1 (hother n k (hnp n hn) hk)⟩
  · have h1 : RepM w' _ τ'' out' v := RepM.map (fun n hn => hvia n (List.all_eq_true.1 hon n hn)) hv
    exact RepM.step h1 (fun k _ hk => ⟨hS k hk, rfl⟩) fun _ _ => ⟨rfl, rfl⟩

section
variable {P : Program} {N : Nat} {o : Oper}
/-- A call that is handed objects: 'pre'' is what stands there, 'post'' what stands there then. -/
theorem c_callObj {d : Nat} {x : Operand} {f : FuncId} {xs : List Operand} {args : Array Operand} {ts : Array TypeId} {caps : List (List T)} {ins ins' : List M} {out out' : M} {pre pre' post post' : St} {kl : List Loc} {ps qs : List (Nat × Nat)} {nw : List Nat} {rx rd : List (Loc × Val)}
    (ho : o.op = .call { callee := .value x, args := args, argTypes := ts }) (hargs : args.toList = xs) (hd : o.dst = some d) (hN : d < N) (hx : EvR x (.one (.t (.clo f caps))) rx)
    (hA : ACalls P f (ins ++ caps.map fun cs => .one (.tptr cs 0)) pre out post) (hi : EvArgs xs ins' rd) (hins : ins' = ins.map (M.map (ren ps))) (hit : ins.all (fun m => match m with | .tup _ => false | m => m.names.all (inDom ps)) = true)
    (hps : lendOk ps = true) (hpin : namesIn ps pre = true) (hpa : agreeR ps pre' pre) (hpt : noTmp pre = true) (hcov : ps.all (fun p => covers pre' (post'.map (·.1) ++ kl) p.2) = true)
    (hqs : backOk ps qs = true) (hnw : qs.all (fun q => Nat.blt q.2 2000000 || nw.any (Nat.beq q.1)) = true) (hp : namesIn qs post' = true) (hag : agreeR qs post post') (hnt : noTmp post' = true) (hon : out'.names.all (inDom qs) = true) (hout : out = out'.map (ren qs)) :
    LCore P N o (rx ++ (rd ++ pre')) ((.tmp d, .m out') :: (post' ++ kl.map fun l => (l, .gone))) nw := by
  rintro E σ rfl hr hf K Q a w ⟨τ, hs⟩ hk
  obtain ⟨hrx, hr⟩ := agree_append.1 hr
  obtain ⟨hrd, hrp⟩ := agree_append.1 hr
  obtain ⟨hokf, hA⟩ := hA
  have hargsv := hi.rep hrd hs
  have hpa' : agreeR ps σ pre := by
    have key : ∀ (pre : St), agreeR ps pre' pre → agreeR ps σ pre := by
      intro pre
      induction pre with
      | nil => intro _; exact trivial
      | cons p r ih =>
        intro hh
        refine ⟨fun w S τ a l hl => ?_, ih hh.2⟩
        by_cases hg : look pre' (p.1.map (PM.ren ps)) = .gone
        · have := hh.1 w S τ a l
          rw [hg] at this
          exact this (by cases l <;> exact trivial)
        · have hmem := look_mem (l := p.1.map (PM.ren ps)) rfl hg
          have e := agree_iff.1 hrp _ hmem
          simp only at e
          refine hh.1 w S τ a l ?_
          rw [← e]; exact hl
    exact key pre hpa
  have hlend := hps
  simp only [lendOk, Bool.and_eq_true] at hlend
  have hsim := hs.lendIn hlend.1.1 hpin hpa' hpt
  have hins' : RepMs w (Env.S ⟨w, 0, E.S τ, τ.lent ps, τ.ren ps⟩ (τ.ren ps)) (τ.ren ps) ins (xs.map a.eval) := by
    subst hins
    refine ⟨by simpa using hargsv.1, fun j m hj => ?_⟩
    obtain ⟨u, hu, hrm⟩ := hargsv.2 j (m.map (PM.ren ps)) (by rw [List.getElem?_map, hj]; rfl)
    refine ⟨u, hu, ?_⟩
    have hnm := List.all_eq_true.1 hit m (List.mem_of_getElem? hj)
    have hnm' : ∀ n ∈ m.names, inDom ps n = true := by
      cases m with
      | tup _ => cases hnm
      | _ => exact List.all_eq_true.1 hnm
    exact RepM.step (RepM.map (fun n hn => Tie.ren_via (hnm' n hn)) hrm) (fun k _ hk => ⟨lent_S hk, rfl⟩) (fun _ _ => ⟨rfl, rfl⟩)
  have hclo := hx E τ σ a w hrx hs
  obtain ⟨capv, hcv, hcaps⟩ : ∃ capv : Array Value, a.eval x = .func (.func f) #[] capv ∧ RepMs w (Env.S ⟨w, 0, E.S τ, τ.lent ps, τ.ren ps⟩ (τ.ren ps)) (τ.ren ps) (caps.map fun cs => .one (.tptr cs 0)) capv.toList := by
    generalize hev : a.eval x = xv at hclo
    have hclo' : RepT w (E.S τ) (.clo f caps) xv := hclo
    cases hclo' with
    | @clo _ _ ads vs hcell hrep =>
      refine ⟨_, rfl, by simp, fun j m hj => ?_⟩
      rw [List.getElem?_map] at hj
      cases hc : caps[j]? with
      | none => rw [hc] at hj; cases hj
      | some cs =>
        rw [hc] at hj
        simp only [Option.map_some, Option.some.injEq] at hj
        subst hj
        have hjl : j < caps.length := (List.getElem?_eq_some_iff.1 hc).1
        refine ⟨.pointer (some (ads j)), by simp [List.getElem?_map, List.getElem?_range hjl], ads j, by simp [Addr.add], fun k t ht => ?_⟩
        obtain ⟨h1, h2⟩ := hcell j cs k t hc ht
        exact ⟨lent_S h1, _, h2, (hrep j cs k t hc ht).step fun k _ hk => ⟨lent_S hk, rfl⟩⟩
  have hall : RepMs w (Env.S ⟨w, 0, E.S τ, τ.lent ps, τ.ren ps⟩ (τ.ren ps)) (τ.ren ps) (ins ++ caps.map fun cs => .one (.tptr cs 0)) (xs.map a.eval ++ capv.toList) := by
    refine ⟨by simp only [List.length_append]; rw [hins'.1, hcaps.1], fun j m hj => ?_⟩
    by_cases hjl : j < ins.length
    · rw [List.getElem?_append_left hjl] at hj
      obtain ⟨u, hu, hr⟩ := hins'.2 j m hj
      exact ⟨u, by rw [List.getElem?_append_left (by rw [← hins'.1]; exact hjl)]; exact hu, hr⟩
    · rw [List.getElem?_append_right (by omega)] at hj
      obtain ⟨u, hu, hr⟩ := hcaps.2 _ m hj
      exact ⟨u, by rw [List.getElem?_append_right (by rw [← hins'.1]; omega), ← hins'.1]; exact hu, hr⟩
  have hcall := hA w (E.S τ) (τ.lent ps) (τ.ren ps) _ hsim hall
  refine wp_entered (run_call_value ho hcv hokf) (R := _) (by
    have : args.map a.eval ++ capv = (xs.map a.eval ++ capv.toList).toArray := by
      subst hargs
      apply Array.ext'
      simp
    rw [this]
    exact hcall) ?_
  rintro e w' ⟨v, τ', rfl, hs', hv, _⟩
  refine ⟨v, rfl, ?_⟩
  rw [hd]
  rw [hout] at hv
  obtain ⟨τ'', h1, h2⟩ := hs.calledObj hps hs' hqs (fun n b hm hb => hf n (by
      have := List.all_eq_true.1 hnw _ hm
      simp only [Bool.or_eq_true] at this
      rcases this with h1 | h1
      · simp at h1; omega
      · obtain ⟨m, hm, hb⟩ := List.any_eq_true.1 h1
        rw [Nat.eq_of_beq_eq_true hb]; exact hm)) (fun c n hm l hn hg => covers_spec hs hrp (List.all_eq_true.1 hcov _ hm) hn hg) hp hag hnt hon hv
  exact hk _ _ ⟨τ'', h1.put hN h2⟩
end
end Go.PM
