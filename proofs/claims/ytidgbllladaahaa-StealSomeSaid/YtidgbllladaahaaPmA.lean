/- A part of a layer between the model's runs and plain values: steps of code simulate plain functions; no program is named here. -/
import Derived.WalkKit
import Derived.Orders
import Derived.Deep.Draws
import Derived.Maps.AppendAt
import Derived.ArgAppend
set_option linter.all false
namespace Go.PM
open Go Go.RowKit

/-! ### Pure trees -/
inductive T where
  | v (x : Value)
  | sl (es : List (List T))
  | clo (f : FuncId) (caps : List (List T))

/-- One cell, and nothing in it leads to memory. -/
def plain : Value → Bool
  | .bool _ | .int _ _ | .float _ _ | .complex _ _ _ | .string _ | .nilFunc | .nilIface => true
  | .pointer none | .map none | .chan none => true
  | .slice none 0 0 => true
  | .func (.func _) f c => f.isEmpty && c.isEmpty
  | _ => false

inductive RepT (w : World) (S : Nat → Prop) : T → Value → Prop
  | v {x : Value} (h : plain x = true) : RepT w S (.v x) x
  | nil {A : Option Addr} {c : Nat} : RepT w S (.sl []) (.slice A 0 c)
  | sl {es : List (List T)} {n c : Nat} {ad : Addr} {vs : Nat → Nat → Value} (sz : Nat) (hn : es.length = n) (hc : n ≤ c) (hm : c ≤ maxLen) (h0 : 0 < sz) (hS : S ad.block)
      (hsz : ∀ cs ∈ es, cs.length = sz)
      (hcell : ∀ i cs j t, es[i]? = some cs → cs[j]? = some t → w.cell? (ad.add (i * sz + j)) = some (vs i j))
      (hrep : ∀ i cs j t, es[i]? = some cs → cs[j]? = some t → RepT w S t (vs i j)) : RepT w S (.sl es) (.slice (some ad) n c)
  | clo {f : FuncId} {caps : List (List T)} {ads : Nat → Addr} {vs : Nat → Nat → Value}
      (hcell : ∀ i cs j t, caps[i]? = some cs → cs[j]? = some t → S (ads i).block ∧ w.cell? ((ads i).add j) = some (vs i j))
      (hrep : ∀ i cs j t, caps[i]? = some cs → cs[j]? = some t → RepT w S t (vs i j)) : RepT w S (.clo f caps) (.func (.func f) #[] ((List.range caps.length).map fun i => .pointer (some (ads i))).toArray)

theorem block_add (a : Addr) (n : Nat) : (a.add n).block = a.block := by unfold Addr.add; split <;> rfl
theorem add_add (a : Addr) (i j : Nat) : (a.add i).add j = a.add (i + j) := by
  unfold Addr.add
  by_cases hi : i = 0 <;> by_cases hj : j = 0 <;> simp [hi, hj, Nat.add_assoc]

theorem cell_step {w w' : World} {a : Addr} {u : Value} (h : w.cell? a = some u) (hk : w'.heap[a.block]? = w.heap[a.block]?) : w'.cell? a = some u :=
  (World.cell?_of_block hk).trans h

theorem RepT.step {w w' : World} {S S' : Nat → Prop} {t : T} {v : Value} (h : RepT w S t v) (hk : ∀ k, k < w.heap.size → S k → S' k ∧ w'.heap[k]? = w.heap[k]?) : RepT w' S' t v := by
  induction h with
  | v h => exact .v h
  | nil => exact .nil
  | @clo f caps ads vs hcell hrep ih =>
    refine .clo (fun i cs j t h1 h2 => ?_) ih
    obtain ⟨hS, hc⟩ := hcell i cs j t h1 h2
    have hlt := World.block_lt_of_cell? w _ hc
    rw [block_add] at hlt
    exact ⟨(hk _ hlt hS).1, cell_step hc (by rw [block_add]; exact (hk _ hlt hS).2)⟩
  | @sl es n c ad vs sz hn hc hm h0 hS hsz hcell hrep ih =>
    by_cases he : es = []
    · subst he
      obtain rfl : n = 0 := by simpa using hn.symm
      exact .nil
    · obtain ⟨cs, r, rfl⟩ : ∃ cs r, es = cs :: r := by cases es with
        | nil => exact absurd rfl he
        | cons a b => exact ⟨a, b, rfl⟩
      have hl : cs.length = sz := hsz cs (by simp)
      have hc0 := hcell 0 cs 0 (cs[0]'(by omega)) rfl (by simp)
      have hlt : ad.block < w.heap.size := by
        have := World.block_lt_of_cell? w _ hc0
        rwa [block_add] at this
      exact .sl sz hn hc hm h0 (hk _ hlt hS).1 hsz (fun i cs j t h1 h2 => cell_step (hcell i cs j t h1 h2) (by rw [block_add]; exact (hk _ hlt hS).2)) ih

theorem RepT.mono {w : World} {S S' : Nat → Prop} {t : T} {v : Value} (h : RepT w S t v) (hk : ∀ k, S k → S' k) : RepT w S' t v := h.step fun k _ hs => ⟨hk k hs, rfl⟩

/-- nil is a list of nothing. -/
theorem RepT.of_nil {w : World} {S : Nat → Prop} {v : Value} (h : RepT w S (.v (.slice none 0 0)) v) : RepT w S (.sl []) v := by
  cases h
  exact .nil

/-! ### The abstract state -/
inductive C where
  | t (x : T)
  | row (n : Nat)
  | ptr (n off : Nat)
  | eptr (n sz i j : Nat)
  | tptr (cs : List T) (off : Nat)
  | fn (f : FuncId) (caps : List Nat)
  | tight (es : List (List T))
  | seg (n sz i m : Nat)

inductive M where
  | one (c : C)
  | agg (cs : List C)
  | tup (ms : List (Bool × List C))

/-- What a block is that is looked into as a whole: so many cells; a map. -/
inductive OV where
  | len (K : Nat)
  | map (ag : Bool) (es : List (Value × List T))

inductive Val where
  | m (x : M)
  | c (x : C)
  | r (e sz : Nat) (es : List (List T))
  | o (x : OV)
  | gone

inductive Loc where
  | tmp (t : Nat)
  | cell (n j : Nat)
  | row (n : Nat)
  | obj (n : Nat)
  deriving DecidableEq

abbrev St := List (Loc × Val)

def Loc.same : Loc → Loc → Bool
  | .tmp a, .tmp b => Nat.beq a b
  | .cell a i, .cell b j => Nat.beq a b && Nat.beq i j
  | .row a, .row b => Nat.beq a b
  | .obj a, .obj b => Nat.beq a b
  | _, _ => false
theorem Loc.same_iff {a b : Loc} : a.same b = true ↔ a = b := by
  cases a <;> cases b <;> simp [Loc.same]

def look : St → Loc → Val
  | [], _ => .gone
  | (l, x) :: r, k => bif l.same k then x else look r k

def C.names : C → List Nat
  | .t _ | .tptr _ _ | .tight _ => []
  | .row n | .ptr n _ | .eptr n _ _ _ | .seg n _ _ _ => [n]
  | .fn _ caps => caps
def M.names : M → List Nat
  | .one c => c.names
  | .agg cs => cs.flatMap C.names
  | .tup ms => ms.flatMap fun p => p.2.flatMap C.names
def Val.names : Val → List Nat
  | .m x => x.names
  | .c x => x.names
  | .r _ _ _ | .o _ | .gone => []
def Loc.names : Loc → List Nat
  | .tmp _ => []
  | .cell n _ | .row n | .obj n => [n]

/-- No entry of the state speaks of this name. -/
def fresh (n : Nat) (σ : St) : Bool := σ.all fun e => !(e.1.names ++ e.2.names).any (Nat.beq n)

/-! ### What an abstract value stands for -/
structure Tie where
  ρ : Nat → Option Nat
  β : Nat → Nat
  ν : Nat → Value
  κ : Nat → Bool

/-- w0: the world in which the call began; S0: what the arguments may lead to; O: blocks of objects that were handed over; t0: their names (from 1000000 on). -/
structure Env where
  w0 : World
  N : Nat
  S0 : Nat → Prop
  O : Nat → Prop
  t0 : Tie

/-- Names from 1000000 on are the caller's: they are never bound anew. -/
def Tie.kept (τ τ' : Tie) : Prop := ∀ n, 1000000 ≤ n → n < 2000000 → τ'.β n = τ.β n ∧ τ'.ν n = τ.ν n ∧ τ'.κ n = τ.κ n ∧ ∀ k, τ'.ρ n = some k → τ.ρ n = some k
theorem Tie.kept.refl (τ : Tie) : τ.kept τ := fun _ _ _ => ⟨rfl, rfl, rfl, fun _ h => h⟩
theorem Tie.kept.trans {a b c : Tie} (h : a.kept b) (k : b.kept c) : a.kept c := fun n hn hm =>
  ⟨(k n hn hm).1.trans (h n hn hm).1, (k n hn hm).2.1.trans (h n hn hm).2.1, (k n hn hm).2.2.1.trans (h n hn hm).2.2.1, fun x hx => (h n hn hm).2.2.2 x ((k n hn hm).2.2.2 x hx)⟩

def Env.S (E : Env) (τ : Tie) (k : Nat) : Prop := (E.S0 k ∨ E.O k ∨ E.w0.heap.size ≤ k) ∧ ∀ n, τ.ρ n ≠ some k

def RepC (w : World) (S : Nat → Prop) (τ : Tie) : C → Value → Prop
  | .t x, v => RepT w S x v
  | .row n, v => v = τ.ν n ∧ v.oneCell' = true
  | .ptr n off, v => v = .pointer (some ⟨τ.β n, off, none⟩)
  | .eptr n sz i j, v => ∃ b, (τ.ν n).ownBlock = some b ∧ v = .pointer (some ⟨b, i * sz + j, none⟩)
  | .tptr cs off, v => ∃ ad : Addr, v = .pointer (some (ad.add off)) ∧ ∀ (j : Nat) (t : T), cs[j]? = some t → S ad.block ∧ ∃ u, w.cell? (ad.add j) = some u ∧ RepT w S t u
  | .fn f caps, v => v = .func (.func f) #[] (caps.map fun n => .pointer (some ⟨τ.β n, 0, none⟩)).toArray
  | .tight es, v => (∃ A n, v = .slice A n n) ∧ RepT w S (.sl es) v
  | .seg n sz i m, v => (m = 0 ∧ ∃ A c, v = .slice A 0 c) ∨ ∃ b c, (τ.ν n).ownBlock = some b ∧ v = .slice (some ⟨b, i * sz, none⟩) m c

def RepCs (w : World) (S : Nat → Prop) (τ : Tie) (cs : List C) (vs : List Value) : Prop := cs.length = vs.length ∧ ∀ (j : Nat) (c : C), cs[j]? = some c → ∃ u, vs[j]? = some u ∧ RepC w S τ c u

def RepB (w : World) (S : Nat → Prop) (τ : Tie) : Bool × List C → Value → Prop
  | (false, cs), v => ∃ c, cs = [c] ∧ RepC w S τ c v
  | (true, cs), v => ∃ vs : Array Value, v = .agg vs ∧ RepCs w S τ cs vs.toList

def RepM (w : World) (S : Nat → Prop) (τ : Tie) : M → Value → Prop
  | .one c, v => RepC w S τ c v
  | .agg cs, v => ∃ vs : Array Value, v = .agg vs ∧ RepCs w S τ cs vs.toList
  | .tup ms, v => ∃ vs : Array Value, v = .tuple vs ∧ ms.length = vs.size ∧ ∀ (j : Nat) (b : Bool × List C), ms[j]? = some b → ∃ u, vs[j]? = some u ∧ RepB w S τ b u

/-- A row: its header is an own slice whose cells stand for the elements. -/
def RowOk (w : World) (S : Nat → Prop) (v : Value) (e sz : Nat) (es : List (List T)) : Prop :=
  0 < sz ∧ (∀ cs ∈ es, cs.length = sz) ∧ ∃ xs, w.ownsRow 0 e sz v es.length xs ∧ ∀ i cs j t, es[i]? = some cs → cs[j]? = some t → ∃ u, xs[i * sz + j]? = some u ∧ RepT w S t u

/-- A value's cells, of one value or of several. -/
def RepV (w : World) (S : Nat → Prop) (ag : Bool) (ts : List T) (v : Value) : Prop :=
  bif ag then ∃ vs : Array Value, v = .agg vs ∧ ts.length = vs.size ∧ ∀ (j : Nat) (t : T), ts[j]? = some t → ∃ u, vs[j]? = some u ∧ RepT w S t u
  else ∃ t, ts = [t] ∧ RepT w S t v

/-- What a block is. -/
def RepO (w : World) (S : Nat → Prop) : OV → Obj → Prop
  | .len K, .cells vs _ _ => vs.size = K
  | .map ag es, .map ms clock => es.length = ms.size ∧ (∀ (i : Nat) (p : Value × List T), es[i]? = some p → ∃ m, ms[i]? = some m ∧ m.key = p.1 ∧ plain p.1 = true ∧ RepV w S ag p.2 m.val) ∧
      (∀ (i : Nat) (m : MapEntry), ms[i]? = some m → m.born < clock) ∧ ∀ (i j : Nat) (m m' : MapEntry), ms[i]? = some m → ms[j]? = some m' → m.born = m'.born → i = j
  | _, _ => False

theorem RepV.step {w w' : World} {S S' : Nat → Prop} {ag : Bool} {ts : List T} {v : Value} (h : RepV w S ag ts v) (hk : ∀ k, k < w.heap.size → S k → S' k ∧ w'.heap[k]? = w.heap[k]?) : RepV w' S' ag ts v := by
  cases ag with
  | false =>
    obtain ⟨t, h1, h2⟩ := h
    exact ⟨t, h1, h2.step hk⟩
  | true =>
    obtain ⟨vs, h1, h2, h3⟩ := h
    refine ⟨vs, h1, h2, fun j t hj => ?_⟩
    obtain ⟨u, hu, hr⟩ := h3 j t hj
    exact ⟨u, hu, hr.step hk⟩

theorem RepO.step {w w' : World} {S S' : Nat → Prop} {x : OV} {o : Obj} (h : RepO w S x o) (hk : ∀ k, k < w.heap.size → S k → S' k ∧ w'.heap[k]? = w.heap[k]?) : RepO w' S' x o := by
  cases x with
  | len K => cases o <;> exact h
  | map ag es => cases o with
    | map ms clock =>
      obtain ⟨h1, h2, h3⟩ := h
      refine ⟨h1, fun i p hp => ?_, h3⟩
      obtain ⟨m, hm, hkey, hpl, hr⟩ := h2 i p hp
      exact ⟨m, hm, hkey, hpl, hr.step hk⟩
    | _ => exact h

def Holds (w : World) (S : Nat → Prop) (τ : Tie) (a : Act) : Loc → Val → Prop
  | _, .gone => True
  | .tmp t, .m x => RepM w S τ x (a.tmps.getD t undef)
  | .cell n j, .c x => τ.κ n = false ∧ τ.ρ n = some (τ.β n) ∧ w.frozen? ⟨τ.β n, j, none⟩ = false ∧ ∃ u, w.cell? ⟨τ.β n, j, none⟩ = some u ∧ RepC w S τ x u
  | .row n, .r e sz es => τ.κ n = true ∧ (τ.ν n).ownBlock = τ.ρ n ∧ RowOk w S (τ.ν n) e sz es
  | .obj n, .o x => τ.κ n = false ∧ τ.ρ n = some (τ.β n) ∧ ∃ o, w.heap[τ.β n]? = some o ∧ RepO w S x o
  | _, _ => False

structure SimAt (E : Env) (τ : Tie) (σ : St) (a : Act) (w : World) : Prop where
  dfr : a.defers = []
  nsz : a.tmps.size = E.N
  lim : E.N ≤ 1000000
  tie : E.t0.kept τ
  os : w.os = E.w0.os
  tape : w.tape = E.w0.tape
  output : w.output = E.w0.output ∧ E.w0.drawn ≤ w.drawn
  grow : E.w0.heap.size ≤ w.heap.size
  keep : ∀ k, k < E.w0.heap.size → ¬ E.O k → w.heap[k]? = E.w0.heap[k]?
  inj : ∀ n m k, τ.ρ n = some k → τ.ρ m = some k → n = m
  acc : ∀ n k, τ.ρ n = some k → k < w.heap.size ∧ (E.w0.heap.size ≤ k ∨ E.O k)
  get : ∀ l, Holds w (E.S τ) τ a l (look σ l)

def Sim (E : Env) (σ : St) (a : Act) (w : World) : Prop := ∃ τ, SimAt E τ σ a w

theorem RepC.step {w w' : World} {S S' : Nat → Prop} {τ τ' : Tie} {c : C} {v : Value} (h : RepC w S τ c v) (hk : ∀ k, k < w.heap.size → S k → S' k ∧ w'.heap[k]? = w.heap[k]?)
    (hb : ∀ n ∈ c.names, τ'.β n = τ.β n ∧ τ'.ν n = τ.ν n) : RepC w' S' τ' c v := by
  cases c with
  | t x => exact RepT.step h hk
  | row n => simp only [RepC] at h ⊢; rw [(hb n (by simp [C.names])).2]; exact h
  | ptr n off => simp only [RepC] at h ⊢; rw [h, (hb n (by simp [C.names])).1]
  | eptr n sz i j => simp only [RepC] at h ⊢; rw [(hb n (by simp [C.names])).2]; exact h
  | tptr cs off =>
    simp only [RepC] at h ⊢
    obtain ⟨ad, e, hc⟩ := h
    refine ⟨ad, e, fun j t ht => ?_⟩
    obtain ⟨hS, u, hu, hr⟩ := hc j t ht
    have hlt : ad.block < w.heap.size := by
      have := World.block_lt_of_cell? w _ hu
      rwa [block_add] at this
    exact ⟨(hk _ hlt hS).1, u, cell_step hu (by rw [block_add]; exact (hk _ hlt hS).2), hr.step hk⟩
  | fn f caps =>
    simp only [RepC] at h ⊢
    rw [h]
    congr 2
    refine List.map_congr_left fun n hn => ?_
    rw [(hb n hn).1]
  | tight es => exact ⟨h.1, h.2.step hk⟩
  | seg n sz i m => simp only [RepC] at h ⊢; rw [(hb n (by simp [C.names])).2]; exact h

theorem RepCs.step {w w' : World} {S S' : Nat → Prop} {τ τ' : Tie} {cs : List C} {vs : List Value} (h : RepCs w S τ cs vs) (hk : ∀ k, k < w.heap.size → S k → S' k ∧ w'.heap[k]? = w.heap[k]?)
    (hb : ∀ n ∈ cs.flatMap C.names, τ'.β n = τ.β n ∧ τ'.ν n = τ.ν n) : RepCs w' S' τ' cs vs :=
  ⟨h.1, fun j c hj => by
    obtain ⟨u, hu, hr⟩ := h.2 j c hj
    exact ⟨u, hu, hr.step hk fun n hn => hb n (List.mem_flatMap.2 ⟨c, List.mem_of_getElem? hj, hn⟩)⟩⟩

theorem RepM.step {w w' : World} {S S' : Nat → Prop} {τ τ' : Tie} {x : M} {v : Value} (h : RepM w S τ x v) (hk : ∀ k, k < w.heap.size → S k → S' k ∧ w'.heap[k]? = w.heap[k]?)
    (hb : ∀ n ∈ x.names, τ'.β n = τ.β n ∧ τ'.ν n = τ.ν n) : RepM w' S' τ' x v := by
  cases x with
  | one c => exact RepC.step h hk hb
  | agg cs =>
    obtain ⟨vs, e, hr⟩ := h
    exact ⟨vs, e, hr.step hk hb⟩
  | tup ms =>
    obtain ⟨vs, e, hl, hr⟩ := h
    refine ⟨vs, e, hl, fun j b hj => ?_⟩
    obtain ⟨u, hu, hb'⟩ := hr j b hj
    have hn : ∀ n ∈ b.2.flatMap C.names, τ'.β n = τ.β n ∧ τ'.ν n = τ.ν n := fun n hn => hb n (by
      simp only [M.names]
      exact List.mem_flatMap.2 ⟨b, List.mem_of_getElem? hj, hn⟩)
    refine ⟨u, hu, ?_⟩
    obtain ⟨k, cs⟩ := b
    cases k with
    | false =>
      obtain ⟨c, rfl, hc⟩ := hb'
      exact ⟨c, rfl, hc.step hk fun n hn' => hn n (by simpa using hn')⟩
    | true =>
      obtain ⟨us, e', hc⟩ := hb'
      exact ⟨us, e', hc.step hk hn⟩

theorem RowOk.step {w w' : World} {S S' : Nat → Prop} {v : Value} {e sz : Nat} {es : List (List T)} (h : RowOk w S v e sz es) (hk : ∀ k, k < w.heap.size → S k → S' k ∧ w'.heap[k]? = w.heap[k]?)
    (hv : ∀ k, v.ownBlock = some k → w'.heap[k]? = w.heap[k]?) : RowOk w' S' v e sz es := by
  obtain ⟨h0, hs, xs, ho, hr⟩ := h
  refine ⟨h0, hs, xs, ⟨ho.1, ?_⟩, fun i cs j t h1 h2 => ?_⟩
  · rcases ho.2 with h2 | ⟨g, cap, cur, hv', hg, hh, r⟩
    · exact .inl h2
    · exact .inr ⟨g, cap, cur, hv', hg, (hv g (by rw [hv']; rfl)).trans hh, r⟩
  · obtain ⟨u, hu, ht⟩ := hr i cs j t h1 h2
    exact ⟨u, hu, ht.step hk⟩

/-! ### Looking -/
theorem look_cons_same (σ : St) (l : Loc) (x : Val) : look ((l, x) :: σ) l = x := by
  have : l.same l = true := Loc.same_iff.2 rfl
  simp [look, this]
theorem look_cons_ne (σ : St) {l k : Loc} (x : Val) (h : l ≠ k) : look ((l, x) :: σ) k = look σ k := by
  have : l.same k = false := by
    rw [Bool.eq_false_iff]
    intro e
    exact h (Loc.same_iff.1 e)
  simp [look, this]
theorem look_cons (σ : St) (l k : Loc) (x : Val) : look ((l, x) :: σ) k = if l = k then x else look σ k := by
  by_cases h : l = k
  · subst h; simp [look_cons_same]
  · rw [look_cons_ne σ x h, if_neg h]
theorem look_mem {σ : St} {l : Loc} {x : Val} (h : look σ l = x) (hx : x ≠ .gone) : (l, x) ∈ σ := by
  induction σ with
  | nil => exact absurd h.symm hx
  | cons e r ih =>
    obtain ⟨l', y⟩ := e
    rw [look_cons] at h
    by_cases he : l' = l
    · rw [if_pos he] at h
      subst he h
      simp
    · rw [if_neg he] at h
      exact List.mem_cons_of_mem _ (ih h)
theorem fresh_mem {n : Nat} {σ : St} (h : fresh n σ = true) {l : Loc} {x : Val} (hm : (l, x) ∈ σ) : n ∉ l.names ∧ n ∉ x.names := by
  have h1 := List.all_eq_true.1 h _ hm
  simp only [Bool.not_eq_true', List.any_eq_false, List.mem_append] at h1
  exact ⟨fun hn => h1 n (.inl hn) (by simp), fun hn => h1 n (.inr hn) (by simp)⟩

/-! ### Steps of the world -/
theorem Act.put_getD (a : Act) (d : Nat) (v : Value) (h : d < a.tmps.size) (t : Nat) : (a.put (some d) v).tmps.getD t undef = if d = t then v else a.tmps.getD t undef := by
  simp only [Act.put, Array.getD_eq_getD_getElem?, Array.getElem?_setIfInBounds]
  by_cases e : d = t
  · subst e; simp [h]
  · simp [e]

theorem Holds.put {w : World} {S : Nat → Prop} {τ : Tie} {a : Act} {d : Nat} {v : Value} (hd : d < a.tmps.size) {l : Loc} {x : Val} (h : Holds w S τ a l x) (hl : l ≠ .tmp d) : Holds w S τ (a.put (some d) v) l x := by
  cases x with
  | gone => cases l <;> exact trivial
  | m x => cases l with
    | tmp t =>
      simp only [Holds] at h ⊢
      rw [Act.put_getD a d v hd, if_neg (fun e => hl (by rw [e]))]
      exact h
    | _ => exact h
  | _ => cases l <;> exact h

/-- A temporary is written; the world stays. -/
theorem SimAt.put {E : Env} {τ : Tie} {σ : St} {a : Act} {w : World} (h : SimAt E τ σ a w) {d : Nat} (hd : d < E.N) {x : M} {v : Value} (hv : RepM w (E.S τ) τ x v) : SimAt E τ ((.tmp d, .m x) :: σ) (a.put (some d) v) w where
  dfr := h.dfr
  nsz := by simpa [Act.put] using h.nsz
  lim := h.lim
  tie := h.tie
  os := h.os
  tape := h.tape
  output := h.output
  grow := h.grow
  keep := h.keep
  inj := h.inj
  acc := h.acc
  get l := by
    have hd' : d < a.tmps.size := by rw [h.nsz]; exact hd
    rw [look_cons]
    by_cases e : Loc.tmp d = l
    · subst e
      rw [if_pos rfl]
      simp only [Holds]
      rw [Act.put_getD a d v hd', if_pos rfl]
      exact hv
    · rw [if_neg e]
      exact (h.get l).put hd' (fun e' => e e'.symm)

theorem SimAt.drew {E : Env} {τ : Tie} {σ : St} {a : Act} {w : World} (h : SimAt E τ σ a w) (n : Nat) (hn : w.drawn ≤ n) : SimAt E τ σ a { w with drawn := n } where
  dfr := h.dfr
  nsz := h.nsz
  lim := h.lim
  tie := h.tie
  os := h.os
  tape := h.tape
  output := ⟨h.output.1, Nat.le_trans h.output.2 hn⟩
  grow := h.grow
  keep := h.keep
  inj := h.inj
  acc := h.acc
  get l := by
    have hs : ∀ k, k < w.heap.size → (E.S τ) k → (E.S τ) k ∧ ({ w with drawn := n } : World).heap[k]? = w.heap[k]? := fun k _ hk => ⟨hk, rfl⟩
    have := h.get l
    generalize look σ l = x at this ⊢
    cases x with
    | gone => cases l <;> exact trivial
    | m x => cases l with
      | tmp t => exact RepM.step (show RepM w _ _ _ _ from this) hs fun _ _ => ⟨rfl, rfl⟩
      | _ => exact this
    | c x => cases l with
      | cell n j =>
        obtain ⟨hq, h1, h2, u, h3, h4⟩ := this
        exact ⟨hq, h1, h2, u, h3, h4.step hs fun _ _ => ⟨rfl, rfl⟩⟩
      | _ => exact this
    | r e sz es => cases l with
      | row n =>
        obtain ⟨hq, h1, h2⟩ := this
        exact ⟨hq, h1, h2.step hs fun _ _ => rfl⟩
      | _ => exact this
    | o x => cases l with
      | obj n =>
        obtain ⟨hq, h1, o, h2, h3⟩ := this
        exact ⟨hq, h1, o, h2, h3.step hs⟩
      | _ => exact this

theorem Holds.step {w w' : World} {S S' : Nat → Prop} {τ τ' : Tie} {a : Act} {l : Loc} {x : Val} (h : Holds w S τ a l x) (hk : ∀ k, k < w.heap.size → S k → S' k ∧ w'.heap[k]? = w.heap[k]?)
    (hb : ∀ n ∈ x.names, τ'.β n = τ.β n ∧ τ'.ν n = τ.ν n) (hl : ∀ n ∈ l.names, τ'.β n = τ.β n ∧ τ'.ν n = τ.ν n ∧ τ'.κ n = τ.κ n ∧ τ'.ρ n = τ.ρ n ∧ ∀ k, τ.ρ n = some k → w'.heap[k]? = w.heap[k]?) : Holds w' S' τ' a l x := by
  cases x with
  | gone => cases l <;> exact trivial
  | m x => cases l with
    | tmp t => exact RepM.step (show RepM w _ _ _ _ from h) hk hb
    | _ => exact h
  | c x => cases l with
    | cell n j =>
      obtain ⟨hq, h1, h2, u, h3, h4⟩ := h
      obtain ⟨hβ, _, hκ, hρ, hw⟩ := hl n (by simp [Loc.names])
      have hblk := hw _ h1
      refine ⟨hκ.trans hq, by rw [hρ, hβ]; exact h1, ?_, u, ?_, h4.step hk hb⟩
      · rw [hβ]
        exact (World.frozen?_of_block (a := ⟨τ.β n, j, none⟩) hblk).trans h2
      · rw [hβ]
        exact cell_step h3 hblk
    | _ => exact h
  | r e sz es => cases l with
    | row n =>
      obtain ⟨hq, h1, h2⟩ := h
      obtain ⟨_, hν, hκ, hρ, hw⟩ := hl n (by simp [Loc.names])
      refine ⟨hκ.trans hq, by rw [hν, hρ]; exact h1, ?_⟩
      rw [hν]
      exact h2.step hk (fun k hk' => hw k (h1 ▸ hk'))
    | _ => exact h
  | o x => cases l with
    | obj n =>
      obtain ⟨hq, h1, o, h2, h3⟩ := h
      obtain ⟨hβ, _, hκ, hρ, hw⟩ := hl n (by simp [Loc.names])
      exact ⟨hκ.trans hq, by rw [hρ, hβ]; exact h1, o, by rw [hβ]; exact (hw _ h1).trans h2, h3.step hk⟩
    | _ => exact h

/-- A row's name is no box's. -/
theorem Holds.rowOnly {w : World} {S : Nat → Prop} {τ : Tie} {a : Act} {l : Loc} {x : Val} (h : Holds w S τ a l x) {m : Nat} (hκ : τ.κ m = true) (hm : m ∈ l.names) (hl : l ≠ .row m) : x = .gone := by
  cases l with
  | tmp t => simp [Loc.names] at hm
  | cell n j =>
    obtain rfl : m = n := by simpa [Loc.names] using hm
    cases x with
    | c x => rw [h.1] at hκ; cases hκ
    | gone => rfl
    | _ => exact h.elim
  | obj n =>
    obtain rfl : m = n := by simpa [Loc.names] using hm
    cases x with
    | o x => rw [h.1] at hκ; cases hκ
    | gone => rfl
    | _ => exact h.elim
  | row n =>
    obtain rfl : m = n := by simpa [Loc.names] using hm
    exact absurd rfl hl

/-- The world moves on: only blocks that bear a name have turned. -/
theorem SimAt.move {E : Env} {τ : Tie} {σ : St} {a : Act} {w : World} (h : SimAt E τ σ a w) {w' : World} {τ' : Tie} {σ' : St}
    (hos : w'.os = w.os) (htape : w'.tape = w.tape) (hout : w'.output = w.output ∧ w.drawn ≤ w'.drawn) (hgrow : w.heap.size ≤ w'.heap.size)
    (hch : ∀ k, k < w.heap.size → (∀ n, τ.ρ n ≠ some k) → w'.heap[k]? = w.heap[k]?)
    (hinj : ∀ n m k, τ'.ρ n = some k → τ'.ρ m = some k → n = m)
    (hacc : ∀ n k, τ'.ρ n = some k → k < w'.heap.size)
    (hnew : ∀ n k, τ'.ρ n = some k → k < w.heap.size → ∃ m, τ.ρ m = some k)
    (htie : τ.kept τ')
    (hget : (∀ k, k < w.heap.size → (E.S τ) k → (E.S τ') k ∧ w'.heap[k]? = w.heap[k]?) → ∀ l, Holds w' (E.S τ') τ' a l (look σ' l)) : SimAt E τ' σ' a w' where
  dfr := h.dfr
  nsz := h.nsz
  lim := h.lim
  tie := h.tie.trans htie
  os := hos.trans h.os
  tape := htape.trans h.tape
  output := ⟨hout.1.trans h.output.1, Nat.le_trans h.output.2 hout.2⟩
  grow := Nat.le_trans h.grow hgrow
  keep k hk ho := by
    refine (hch k (Nat.lt_of_lt_of_le hk h.grow) (fun n hn => ?_)).trans (h.keep k hk ho)
    rcases (h.acc n k hn).2 with h1 | h1
    · omega
    · exact ho h1
  inj := hinj
  acc n k hn := by
    refine ⟨hacc n k hn, ?_⟩
    by_cases hlt : k < w.heap.size
    · obtain ⟨m, hm⟩ := hnew n k hn hlt
      exact (h.acc m k hm).2
    · exact .inl (by have := h.grow; omega)
  get := hget fun k hk hs => ⟨⟨hs.1, fun n hn => by
    obtain ⟨m, hm⟩ := hnew n k hn hk
    exact hs.2 m hm⟩, hch k hk hs.2⟩

/-- A state that says less. -/
theorem SimAt.less {E : Env} {τ : Tie} {σ σ' : St} {a : Act} {w : World} (h : SimAt E τ σ a w) (hl : ∀ l, look σ' l = .gone ∨ look σ' l = look σ l) : SimAt E τ σ' a w where
  dfr := h.dfr
  nsz := h.nsz
  lim := h.lim
  tie := h.tie
  os := h.os
  tape := h.tape
  output := h.output
  grow := h.grow
  keep := h.keep
  inj := h.inj
  acc := h.acc
  get l := by
    rcases hl l with e | e
    · rw [e]; cases l <;> exact trivial
    · rw [e]; exact h.get l

/-! ### A new box -/
def Tie.bind (τ : Tie) (n : Nat) (b : Option Nat) (v : Value) (r : Bool) : Tie :=
  { ρ := fun m => if m = n then b else τ.ρ m, β := fun m => if m = n then b.getD 0 else τ.β m, ν := fun m => if m = n then v else τ.ν m, κ := fun m => if m = n then r else τ.κ m }

theorem Tie.kept_bind {τ : Tie} {n : Nat} {b : Option Nat} {v : Value} {r : Bool} (hn : n < 1000000) : τ.kept (τ.bind n b v r) := fun m hm _ => by
  have hne : m ≠ n := by omega
  simp [Tie.bind, hne]

def cellsAt (n : Nat) : Nat → List C → St
  | _, [] => []
  | j, c :: r => (.cell n j, .c c) :: cellsAt n (j + 1) r

theorem look_cellsAt_ne (n : Nat) : ∀ (cs : List C) (j : Nat) (σ : St) (l : Loc), n ∉ l.names → look (cellsAt n j cs ++ σ) l = look σ l
  | [], _, _, _, _ => rfl
  | c :: r, j, σ, l, h => by
    show look ((Loc.cell n j, Val.c c) :: (cellsAt n (j + 1) r ++ σ)) l = _
    rw [look_cons_ne _ _ (by rintro rfl; exact h (by simp [Loc.names]))]
    exact look_cellsAt_ne n r (j + 1) σ l h
theorem look_cellsAt (n : Nat) : ∀ (cs : List C) (j : Nat) (σ : St) (i : Nat), look (cellsAt n j cs ++ σ) (.cell n i) = if h : j ≤ i ∧ i - j < cs.length then .c cs[i - j] else look σ (.cell n i)
  | [], _, _, _ => by simp [cellsAt]
  | c :: r, j, σ, i => by
    show look ((Loc.cell n j, Val.c c) :: (cellsAt n (j + 1) r ++ σ)) (.cell n i) = _
    rw [look_cons]
    by_cases e : j = i
    · subst e
      simp
    · rw [if_neg (by simpa using e), look_cellsAt n r (j + 1) σ i]
      by_cases h : j ≤ i ∧ i - j < (c :: r).length
      · have h' : j + 1 ≤ i ∧ i - (j + 1) < r.length := by simp at h; omega
        rw [dif_pos h, dif_pos h']
        have : i - j = (i - (j + 1)) + 1 := by omega
        simp only [this, List.getElem_cons_succ]
      · have h' : ¬ (j + 1 ≤ i ∧ i - (j + 1) < r.length) := by simp at h ⊢; omega
        rw [dif_neg h, dif_neg h']

theorem look_cellsAt_nc (n : Nat) : ∀ (cs : List C) (j : Nat) (σ : St) {l : Loc}, (∀ m i, l ≠ .cell m i) → look (cellsAt n j cs ++ σ) l = look σ l
  | [], _, _, _, _ => rfl
  | c :: r, j, σ, l, h => by
    show look ((Loc.cell n j, Val.c c) :: (cellsAt n (j + 1) r ++ σ)) l = _
    rw [look_cons_ne _ _ (fun e => h n j e.symm)]
    exact look_cellsAt_nc n r (j + 1) σ h

/-- Nothing that is looked up speaks of this name. -/
def Fresh (n : Nat) (σ : St) : Prop := ∀ l, (n ∈ l.names → look σ l = .gone) ∧ n ∉ (look σ l).names
theorem look_fresh {n : Nat} {σ : St} (h : Fresh n σ) {l : Loc} (hl : n ∈ l.names) : look σ l = .gone := (h l).1 hl
theorem names_fresh {n : Nat} {σ : St} (h : Fresh n σ) (l : Loc) : n ∉ (look σ l).names := (h l).2
theorem Fresh.of_bool {n : Nat} {σ : St} (h : fresh n σ = true) : Fresh n σ := fun l => by
  by_cases hg : look σ l = .gone
  · rw [hg]; exact ⟨fun _ => rfl, by simp [Val.names]⟩
  · have := fresh_mem h (look_mem rfl hg)
    exact ⟨fun hl => absurd hl this.1, this.2⟩

theorem SimAt.box {E : Env} {τ : Tie} {σ : St} {a : Act} {w : World} (h : SimAt E τ σ a w) {n : Nat} (hlim : n < 1000000) (hn : Fresh n σ) {cs : List C} {vs : Array Value} (t : TypeId)
    (hcs : RepCs w (E.S τ) τ cs vs.toList) (hnn : n ∉ cs.flatMap C.names) : SimAt E { τ.bind n (some w.heap.size) .nilIface false with } (cellsAt n 0 cs ++ σ) a (w.alloc (.cells vs t)) := by
  refine h.move (τ' := τ.bind n (some w.heap.size) .nilIface false) rfl rfl ⟨rfl, Nat.le_refl _⟩ (by simp) (fun k hk _ => Below.heap_alloc w _ k hk) ?_ ?_ ?_ (Tie.kept_bind hlim) ?_
  · intro m m' k h1 h2
    simp only [Tie.bind] at h1 h2
    by_cases e : m = n <;> by_cases e' : m' = n
    · rw [e, e']
    · rw [if_pos e] at h1
      rw [if_neg e'] at h2
      have := (h.acc m' k h2).1
      simp at h1
      omega
    · rw [if_neg e] at h1
      rw [if_pos e'] at h2
      have := (h.acc m k h1).1
      simp at h2
      omega
    · rw [if_neg e] at h1
      rw [if_neg e'] at h2
      exact h.inj m m' k h1 h2
  · intro m k h1
    simp only [Tie.bind] at h1
    by_cases e : m = n
    · rw [if_pos e] at h1
      simp at h1
      simp
      omega
    · rw [if_neg e] at h1
      have := (h.acc m k h1).1
      simp
      omega
  · intro m k h1 hlt
    simp only [Tie.bind] at h1
    by_cases e : m = n
    · rw [if_pos e] at h1
      simp at h1
      omega
    · rw [if_neg e] at h1
      exact ⟨m, h1⟩
  · intro hs l
    have hb : ∀ m, m ≠ n → (τ.bind n (some w.heap.size) .nilIface false).β m = τ.β m ∧ (τ.bind n (some w.heap.size) .nilIface false).ν m = τ.ν m := fun m e => by simp [Tie.bind, e]
    by_cases hl : n ∈ l.names
    · cases l with
      | tmp t => simp [Loc.names] at hl
      | row m =>
        have e : n = m := by simpa [Loc.names] using hl
        subst e
        rw [look_cellsAt_nc n cs 0 σ (by simp), look_fresh hn (by simp [Loc.names])]
        exact trivial
      | obj m =>
        have e : n = m := by simpa [Loc.names] using hl
        subst e
        rw [look_cellsAt_nc n cs 0 σ (by simp), look_fresh hn (by simp [Loc.names])]
        exact trivial
      | cell m i =>
        have e : n = m := by simpa [Loc.names] using hl
        subst e
        rw [look_cellsAt]
        by_cases hi : 0 ≤ i ∧ i - 0 < cs.length
        · rw [dif_pos hi]
          simp only [Nat.sub_zero] at hi ⊢
          obtain ⟨u, hu, hr⟩ := hcs.2 i cs[i] (List.getElem?_eq_getElem hi.2)
          refine ⟨by simp [Tie.bind], by simp [Tie.bind], ?_, u, ?_, hr.step hs (fun m hm => hb m ?_)⟩
          · simp [Tie.bind]
          · simp only [Tie.bind, if_true, Option.getD_some, World.cell?_alloc_new]
            simpa using hu
          · rintro rfl
            exact hnn (List.mem_flatMap.2 ⟨_, List.getElem_mem hi.2, hm⟩)
        · rw [dif_neg hi, look_fresh hn (by simp [Loc.names])]
          exact trivial
    · rw [look_cellsAt_ne n cs 0 σ l hl]
      refine (h.get l).step hs (fun m hm => hb m ?_) (fun m hm => ?_)
      · rintro rfl
        exact names_fresh hn l hm
      · have e : m ≠ n := by rintro rfl; exact hl hm
        refine ⟨(hb m e).1, (hb m e).2, by simp [Tie.bind, e], by simp [Tie.bind, e], fun k hk => Below.heap_alloc w _ k (h.acc m k hk).1⟩

/-! ### A store into a box -/
theorem obj_setCell {w w' : World} {S : Nat → Prop} {b j : Nat} {u u0 : Value} {o : Obj} {x : OV} (h : w.heap[b]? = some o) (hc : w.cell? ⟨b, j, none⟩ = some u0) (hr : RepO w' S x o) : ∃ o', (w.setCell ⟨b, j, none⟩ u).heap[b]? = some o' ∧ RepO w' S x o' := by
  simp only [World.cell?, h] at hc
  cases o with
  | cells vs t fr =>
    refine ⟨.cells (vs.setIfInBounds j u) t fr, by simp [World.setCell, Array.getElem?_modify, h], ?_⟩
    cases x with
    | len K => simpa [RepO] using hr
    | map ag es => exact hr
  | _ => simp at hc
theorem SimAt.store {E : Env} {τ : Tie} {σ : St} {a : Act} {w : World} (h : SimAt E τ σ a w) {n j : Nat} {c0 c : C} {u : Value} (h0 : look σ (.cell n j) = .c c0) (hu : RepC w (E.S τ) τ c u) :
    SimAt E τ ((.cell n j, .c c) :: σ) a (w.setCell ⟨τ.β n, j, none⟩ u) := by
  have hc := h.get (.cell n j)
  rw [h0] at hc
  obtain ⟨hκ, hρ, hfz, u0, hcell, _⟩ := hc
  refine h.move rfl rfl ⟨rfl, Nat.le_refl _⟩ (by simp) (fun k _ hne => Below.heap_setCell w _ u k (fun e => hne n (by rw [e]; exact hρ))) h.inj (fun m k hm => by simpa using (h.acc m k hm).1) (fun m k hm _ => ⟨m, hm⟩) (.refl _) ?_
  intro hs l
  rw [look_cons]
  by_cases e : Loc.cell n j = l
  · subst e
    rw [if_pos rfl]
    exact ⟨hκ, hρ, by simpa using hfz, u, World.cell?_setCell_same _ _ _ hcell, hu.step hs (fun _ _ => ⟨rfl, rfl⟩)⟩
  · rw [if_neg e]
    have hl := h.get l
    generalize look σ l = x at hl ⊢
    cases x with
    | gone => cases l <;> exact trivial
    | m x => cases l with
      | tmp t => exact RepM.step (show RepM w _ _ _ _ from hl) hs fun _ _ => ⟨rfl, rfl⟩
      | _ => exact hl
    | c x => cases l with
      | cell m i =>
        obtain ⟨hq, h1, h2, u', h3, h4⟩ := hl
        refine ⟨hq, h1, by simpa using h2, u', ?_, h4.step hs fun _ _ => ⟨rfl, rfl⟩⟩
        rw [World.cell?_setCell_other]
        · exact h3
        · intro he
          injection he with he1 he2
          have : n = m := h.inj n m _ hρ (by rw [he1]; exact h1)
          subst this
          exact e (by rw [he2])
      | _ => exact hl
    | r e' sz es => cases l with
      | row m =>
        obtain ⟨hq, h1, h2⟩ := hl
        refine ⟨hq, h1, h2.step hs fun k hk => Below.heap_setCell w _ u k ?_⟩
        rintro rfl
        rw [h1] at hk
        have hnm : n = m := h.inj n m _ hρ hk
        subst hnm
        rw [hκ] at hq
        cases hq
      | _ => exact hl
    | o x => cases l with
      | obj m =>
        obtain ⟨hq, h1, o, h2, h3⟩ := hl
        refine ⟨hq, h1, ?_⟩
        by_cases hnm : τ.β m = τ.β n
        · rw [hnm] at h2 ⊢
          exact obj_setCell h2 hcell (h3.step hs)
        · exact ⟨o, (Below.heap_setCell w _ u _ hnm).trans h2, h3.step hs⟩
      | _ => exact hl

/-! ### Appending -/
/-- What is appended: a slice whose cells stand for the elements. -/
def SrcOk (w : World) (S : Nat → Prop) (x : Value) (sz : Nat) (es : List (List T)) : Prop :=
  (∀ cs ∈ es, cs.length = sz) ∧ ∃ (A : Option Addr) (c : Nat) (news : List Value), x = .slice A es.length c ∧ news.length = es.length * sz ∧ (∀ ad, A = some ad → ∀ (j : Nat) u, news[j]? = some u → w.cell? (ad.add j) = some u) ∧
    (A = none → es = []) ∧ (∀ u ∈ news, u.oneCell' = true) ∧ ∀ (i : Nat) (cs : List T) (j : Nat) (t : T), es[i]? = some cs → cs[j]? = some t → ∃ u, news[i * sz + j]? = some u ∧ RepT w S t u

theorem RepT.one {w : World} {S : Nat → Prop} {t : T} {v : Value} (h : RepT w S t v) : v.oneCell' = true := by
  cases h with
  | v h => cases v <;> first | rfl | (simp [plain] at h)
  | nil => rfl
  | sl => rfl
  | clo => rfl

theorem idx_div {i j sz : Nat} (hj : j < sz) : (i * sz + j) / sz = i ∧ (i * sz + j) % sz = j := by
  have h0 : 0 < sz := by omega
  constructor
  · rw [Nat.mul_comm, Nat.mul_add_div h0, Nat.div_eq_of_lt hj, Nat.add_zero]
  · rw [Nat.mul_comm, Nat.mul_add_mod, Nat.mod_eq_of_lt hj]

theorem RepT.src {w : World} {S : Nat → Prop} {es : List (List T)} {v : Value} {sz : Nat} (hsz : ∀ cs ∈ es, cs.length = sz) (h0 : 0 < sz) (h : RepT w S (.sl es) v) : SrcOk w S v sz es := by
  refine ⟨hsz, ?_⟩
  cases h with
  | @nil A c => exact ⟨A, c, [], rfl, by simp, fun _ _ _ _ h => by simp at h, fun _ => rfl, fun _ h => by simp at h, fun i cs j t h => by simp at h⟩
  | @sl _ n c ad vs sz' hn hc hm h0' hS hsz' hcell hrep =>
    subst hn
    have key : ∀ (i : Nat) (cs : List T) (j : Nat) (t : T), es[i]? = some cs → cs[j]? = some t → sz' = sz := fun i cs j t h1 _ => (hsz' cs (List.mem_of_getElem? h1)).symm.trans (hsz cs (List.mem_of_getElem? h1))
    have at_ : ∀ k, k < es.length * sz → ∃ cs t, es[k / sz]? = some cs ∧ cs[k % sz]? = some t := fun k hk => by
      have h1 : k / sz < es.length := Nat.div_lt_of_lt_mul (by rw [Nat.mul_comm]; exact hk)
      have h2 : k % sz < (es[k / sz]).length := by rw [hsz _ (List.getElem_mem h1)]; exact Nat.mod_lt _ h0
      exact ⟨_, _, List.getElem?_eq_getElem h1, List.getElem?_eq_getElem h2⟩
    have dm : ∀ k, k / sz * sz + k % sz = k := fun k => by rw [Nat.mul_comm]; exact Nat.div_add_mod k sz
    refine ⟨some ad, c, (List.range (es.length * sz)).map fun k => vs (k / sz) (k % sz), rfl, by simp, ?_, (fun h => by cases h), ?_, ?_⟩
    · intro ad' he j u hu
      injection he with he
      subst he
      rw [List.getElem?_map] at hu
      by_cases hj : j < es.length * sz
      · rw [List.getElem?_range hj] at hu
        simp only [Option.map_some, Option.some.injEq] at hu
        subst hu
        obtain ⟨cs, t, h1, h2⟩ := at_ j hj
        have := hcell _ cs _ t h1 h2
        rwa [key _ cs _ t h1 h2, dm] at this
      · rw [List.getElem?_eq_none (by simpa using hj)] at hu
        simp at hu
    · intro u hu
      obtain ⟨k, hk, rfl⟩ := List.mem_map.1 hu
      obtain ⟨cs, t, h1, h2⟩ := at_ k (List.mem_range.1 hk)
      exact (hrep _ cs _ t h1 h2).one
    · intro i cs j t h1 h2
      have hj : j < sz := by rw [← hsz cs (List.mem_of_getElem? h1)]; exact (List.getElem?_eq_some_iff.1 h2).1
      have hi : i < es.length := (List.getElem?_eq_some_iff.1 h1).1
      have hlt : i * sz + j < es.length * sz := by
        have := Nat.mul_le_mul_right sz (show i + 1 ≤ es.length by omega)
        rw [Nat.add_mul] at this
        omega
      refine ⟨vs i j, ?_, hrep i cs j t h1 h2⟩
      rw [List.getElem?_map, List.getElem?_range hlt, Option.map_some, (idx_div hj).1, (idx_div hj).2]

theorem RowOk.src {w : World} {S : Nat → Prop} {v : Value} {e sz : Nat} {es : List (List T)} (h : RowOk w S v e sz es) : SrcOk w S v sz es := by
  obtain ⟨h0, hsz, xs, ho, hr⟩ := h
  refine ⟨hsz, ?_⟩
  have hl := ho.1
  have hone : ∀ u ∈ xs, u.oneCell' = true := fun u hu => by
    obtain ⟨k, hk, rfl⟩ := List.getElem_of_mem hu
    have hk' : k < es.length * sz := by omega
    have h1 : k / sz < es.length := Nat.div_lt_of_lt_mul (by rw [Nat.mul_comm]; exact hk')
    have h2 : k % sz < (es[k / sz]).length := by rw [hsz _ (List.getElem_mem h1)]; exact Nat.mod_lt _ h0
    obtain ⟨u', hu', ht⟩ := hr _ _ _ _ (List.getElem?_eq_getElem h1) (List.getElem?_eq_getElem h2)
    rw [show k / sz * sz + k % sz = k by rw [Nat.mul_comm]; exact Nat.div_add_mod k sz, List.getElem?_eq_getElem hk] at hu'
    injection hu' with hu'
    rw [hu']
    exact ht.one
  rcases ho.2 with ⟨rfl, hn⟩ | ⟨g, cap, cur, rfl, _⟩
  · have : es = [] := List.eq_nil_of_length_eq_zero hn
    subst this
    obtain rfl : xs = [] := List.eq_nil_of_length_eq_zero (by simpa using hl)
    exact ⟨none, 0, [], rfl, by simp, fun _ h => by (cases h), fun _ => rfl, fun _ h => by simp at h, fun i cs j t h => by simp at h⟩
  · refine ⟨_, cap, xs, rfl, hl, ?_, (fun h => by cases h), hone, hr⟩
    intro ad he j u hu
    injection he with he
    subst he
    exact ho.cells (g := g) rfl j u hu

theorem SrcOk.step {w w' : World} {S S' : Nat → Prop} {x : Value} {sz : Nat} {es : List (List T)} (h : SrcOk w S x sz es) (hk : ∀ k, k < w.heap.size → S k → S' k ∧ w'.heap[k]? = w.heap[k]?)
    (hb : ∀ ad c n, x = .slice (some ad) n c → ad.block < w.heap.size → w'.heap[ad.block]? = w.heap[ad.block]?) : SrcOk w' S' x sz es := by
  obtain ⟨hsz, A, c, news, rfl, hl, hc, hn, h1, hr⟩ := h
  refine ⟨hsz, A, c, news, rfl, hl, fun ad e j u hu => ?_, hn, h1, fun i cs j t a b => ?_⟩
  · subst e
    have hcell := hc ad rfl j u hu
    have hlt := World.block_lt_of_cell? w _ hcell
    rw [block_add] at hlt
    exact cell_step hcell (by rw [block_add]; exact hb ad c _ rfl hlt)
  · obtain ⟨u, hu, ht⟩ := hr i cs j t a b
    exact ⟨u, hu, ht.step hk⟩

theorem viewStore_drawn {p : Program} {w w' : World} {at_ : Addr} {u : TypeId} {k : Addr} {v : Value} {atomic : Bool} {l : List Addr} (h : w.viewStore p at_ u k v atomic = .ok (w', l)) : w'.drawn = w.drawn := by
  unfold World.viewStore at h
  simp only [bind, Except.bind, pure, Except.pure, throw, throwThe, MonadExceptOf.throw, MonadExcept.throw] at h
  repeat' (first | (cases h; done) | split at h)
  all_goals (injection h with h; injection h with h1 h2; rw [← h1])
theorem farStore_drawn {p : Program} {w w' : World} {a : Addr} {v : Value} {atomic : Bool} {l : List Addr} (h : w.farStore p a v atomic = .ok (w', l)) : w'.drawn = w.drawn := by
  unfold World.farStore at h
  split at h
  · split at h
    · rename_i r hr
      injection h with h
      subst h
      exact viewStore_drawn hr
    · cases h
  · cases h
theorem ask_drawn {α : Type} : ∀ (q : Ask α) (w : World), w.drawn ≤ (w.ask q).2.drawn
  | .done a, w => Nat.le_refl _
  | .ask what range k, w => by
    unfold World.ask
    dsimp only
    split
    · exact ask_drawn _ w
    · exact Nat.le_trans (Nat.le_succ _) (ask_drawn _ { w with drawn := w.drawn + 1 })
/-- Draws are only made, never unmade. -/
theorem run_drawn {P : Program} {α : Type} {s : Sem α} {w w' : World} {v' : α} (h : s.run P w = .ok v' w') : w.drawn ≤ w'.drawn := by
  induction s generalizing w with
  | pure a => cases h; exact Nat.le_refl _
  | load m a k ih =>
    simp only [Sem.run] at h
    split at h
    · exact ih _ h
    · split at h
      · exact ih _ h
      · cases h
  | store m a v k ih =>
    have key : (match w.cell? a with
        | some _ => if w.frozen? a then .halt (.unsupported (.unsafePointer "a write to bytes that a string shares")) w else k.run P (w.setCell a v)
        | none => match w.farStore P a v (m == .atomic) with
          | .ok (w, _) => k.run P w
          | .error h => .halt h w) = Result.ok v' w' → w.drawn ≤ w'.drawn := fun h => by
      split at h
      · split at h
        · cases h
        · exact ih (w := w.setCell a v) h
      · split at h
        · rename_i w1 _ hf
          exact Nat.le_trans (Nat.le_of_eq (farStore_drawn hf).symm) (ih (w := w1) h)
        · cases h
    cases v <;> first | exact key h | cases h
  | new o k ih => exact ih _ (w := { w with heap := w.heap.push o }) h
  | shape r k ih => exact ih _ h
  | freeze a n k ih =>
    refine Nat.le_trans (Nat.le_of_eq ?_) (ih h)
    unfold World.freeze
    split <;> rfl
  | frozen a k ih => exact ih _ h
  | getObj r k ih =>
    simp only [Sem.run] at h
    split at h
    · cases h
    · exact ih _ h
    · cases h
  | setObj r o k ih =>
    simp only [Sem.run] at h
    split at h
    · cases h
    · exact ih (w := { w with heap := w.heap.setIfInBounds r o }) h
    · cases h
  | choose q k ih =>
    simp only [Sem.run] at h
    split at h
    · exact ih _ h
    · exact Nat.le_trans (Nat.le_succ _) (ih _ (w := { w with drawn := w.drawn + 1 }) h)
  | sys c k ih =>
    refine Nat.le_trans ?_ (ih _ h)
    have ha := ask_drawn (Kernel.perform c w.os) w
    unfold World.sys
    split
    · exact Nat.le_refl _
    · rename_i he
      rw [he] at ha
      exact ha
  | program k ih => exact ih _ h
  | mark m k ih => exact ih h
  | halt h' => cases h

/-- The law of append, for an own row (nil let in) and whatever source. -/
theorem run_append_src {P : Program} {w : World} {S : Nat → Prop} (t ty e : TypeId) (i : TypeInfo) (z : Value) (size bytes : Nat) (ht : P.underlying t = some (.slice e)) (hi : P.info? e = some i) (hz : i.zero = some z)
    (hsize : i.size = size) (hby : i.bytes = bytes) (hzs : z.cells.size = size) (hsz : 0 < size) (v : Value) (n : Nat) (xs : List Value) (hown : w.ownsRow 0 e size v n xs)
    (x : Value) (es : List (List T)) (hx : SrcOk w S x size es) (h63 : n + es.length ≤ maxLen) (hbytes : (n + es.length) * bytes ≤ 140737488355328) :
    ∃ v' w' news, (Builtin.append_ #[t, t] ty #[v, x]).run P w = .ok v' w' ∧ w'.ownsRow 0 e size v' (n + es.length) (xs ++ news) ∧ w.grownBy w' v.ownBlock ∧ w.drawn ≤ w'.drawn ∧ (v'.ownBlock = v.ownBlock ∨ v'.ownBlock = some w.heap.size) ∧
      ∀ i cs j t, es[i]? = some cs → cs[j]? = some t → ∃ u, news[i * size + j]? = some u ∧ RepT w S t u := by
  obtain ⟨hs, A, c, news, rfl, hl, hc, hnone, h1, hr⟩ := hx
  cases A with
  | none =>
    obtain rfl := hnone rfl
    obtain rfl : news = [] := List.eq_nil_of_length_eq_zero (by simpa using hl)
    refine ⟨v, w, [], ?_, by simpa using hown, World.grownBy.refl w _, Nat.le_refl _, .inl rfl, hr⟩
    rcases hown.2 with ⟨rfl, rfl⟩ | ⟨g, cap, cur, rfl, _, _, hnc, _⟩
    · simp [Builtin.append_, run_underlying ht, sizeOf, typeInfo, hi, Builtin.lenOf, Builtin.firstCells]
    · simp [Builtin.append_, run_underlying ht, sizeOf, typeInfo, hi, Builtin.lenOf, Builtin.firstCells, hnc, storeCells]
  | some ad =>
    obtain ⟨v', w', hrun, h2, h3, _, h5⟩ := run_append_own_at (P := P) w 0 t ty e i z size bytes ht hi hz hsize hby hzs hsz v n xs hown ad es.length c news hl (hc ad rfl) h1 h63 hbytes (Nat.zero_le _)
    exact ⟨v', w', news, hrun, h2, h3, run_drawn hrun, h5, hr⟩

theorem RowOk.join {w w' : World} {S S' : Nat → Prop} {v' : Value} {e sz : Nat} {es es2 : List (List T)} {xs news : List Value} (h0 : 0 < sz) (hs : ∀ cs ∈ es, cs.length = sz) (hs2 : ∀ cs ∈ es2, cs.length = sz) (hl : xs.length = es.length * sz)
    (ho : w'.ownsRow 0 e sz v' (es.length + es2.length) (xs ++ news)) (hr : ∀ i cs j t, es[i]? = some cs → cs[j]? = some t → ∃ u, xs[i * sz + j]? = some u ∧ RepT w S t u)
    (hr2 : ∀ i cs j t, es2[i]? = some cs → cs[j]? = some t → ∃ u, news[i * sz + j]? = some u ∧ RepT w S t u) (hk : ∀ k, k < w.heap.size → S k → S' k ∧ w'.heap[k]? = w.heap[k]?) : RowOk w' S' v' e sz (es ++ es2) := by
  refine ⟨h0, fun cs hcs => (List.mem_append.1 hcs).elim (hs cs) (hs2 cs), xs ++ news, by rw [List.length_append]; exact ho, fun i cs j t h1 h2 => ?_⟩
  have hj : ∀ (l : List (List T)), (∀ cs ∈ l, cs.length = sz) → cs ∈ l → j < sz := fun l hl' hm => by rw [← hl' cs hm]; exact (List.getElem?_eq_some_iff.1 h2).1
  by_cases hi : i < es.length
  · rw [List.getElem?_append_left hi] at h1
    obtain ⟨u, hu, ht⟩ := hr i cs j t h1 h2
    have hj' := hj es hs (List.mem_of_getElem? h1)
    refine ⟨u, ?_, ht.step hk⟩
    rw [List.getElem?_append_left]
    · exact hu
    · exact (List.getElem?_eq_some_iff.1 hu).1
  · rw [List.getElem?_append_right (by omega)] at h1
    obtain ⟨u, hu, ht⟩ := hr2 _ cs j t h1 h2
    refine ⟨u, ?_, ht.step hk⟩
    have hle : es.length * sz ≤ i * sz := Nat.mul_le_mul_right sz (by omega)
    rw [List.getElem?_append_right (by omega)]
    have : i * sz + j - xs.length = (i - es.length) * sz + j := by rw [hl, Nat.sub_mul]; omega
    rw [this]
    exact hu

/-- A new row takes the place of an old one (or of nil). -/
theorem SimAt.newRow {E : Env} {τ : Tie} {σ : St} {a : Act} {w : World} (h : SimAt E τ σ a w) {d : Nat} (hlim : d < 1000000) (hd : Fresh d σ) {m : Nat} {b : Option Nat} {w' : World} {v' : Value} {e sz : Nat} {es : List (List T)}
    (hm : b = none ∨ (b = τ.ρ m ∧ m ≠ d ∧ τ.κ m = true)) (hg : w.grownBy w' b) (hdr : w.drawn ≤ w'.drawn) (hat : ∀ k, v'.ownBlock = some k → k < w'.heap.size ∧ (v'.ownBlock = b ∨ w.heap.size ≤ k))
    (hrow : ∀ S', (∀ k, k < w.heap.size → (E.S τ) k → S' k ∧ w'.heap[k]? = w.heap[k]?) → RowOk w' S' v' e sz es) :
    ∃ τ', SimAt E τ' ((.row d, .r e sz es) :: (if b.isSome then (.row m, .gone) :: σ else σ)) a w' ∧ τ'.ν d = v' := by
  let τ0 : Tie := { τ with ρ := fun n => if b.isSome ∧ n = m then none else τ.ρ n }
  refine ⟨τ0.bind d v'.ownBlock v' true, ?_, by simp [Tie.bind]⟩
  have hb : ∀ n, n ≠ d → (τ0.bind d v'.ownBlock v' true).β n = τ.β n ∧ (τ0.bind d v'.ownBlock v' true).ν n = τ.ν n := fun n e => by simp [Tie.bind, e, τ0]
  have hρ : ∀ n k, (τ0.bind d v'.ownBlock v' true).ρ n = some k → (n = d ∧ v'.ownBlock = some k) ∨ (n ≠ d ∧ τ.ρ n = some k ∧ some k ≠ b) := fun n k hk => by
    simp only [Tie.bind, τ0] at hk
    by_cases e : n = d
    · rw [if_pos e] at hk
      exact .inl ⟨e, hk⟩
    · rw [if_neg e] at hk
      by_cases e2 : b.isSome = true ∧ n = m
      · rw [if_pos e2] at hk; cases hk
      · rw [if_neg e2] at hk
        refine .inr ⟨e, hk, fun hkb => ?_⟩
        rcases hm with hm | ⟨hm, _, _⟩
        · rw [hm] at hkb; cases hkb
        · exact e2 ⟨by rw [← hkb]; rfl, h.inj n m k hk (by rw [← hm, ← hkb])⟩
  have hbk : ∀ k, b = some k → k < w.heap.size ∧ τ.ρ m = some k := fun k hk => by
    rcases hm with hm | ⟨hm, _, _⟩
    · rw [hm] at hk; cases hk
    · have := hm.symm.trans hk
      exact ⟨(h.acc m k this).1, this⟩
  have htie : τ.kept (τ0.bind d v'.ownBlock v' true) := fun n hn _ => by
    have hne : n ≠ d := by omega
    refine ⟨by simp [Tie.bind, hne, τ0], by simp [Tie.bind, hne, τ0], by simp [Tie.bind, hne, τ0], fun k hk => ?_⟩
    rcases hρ n k hk with ⟨e, _⟩ | ⟨_, h1, _⟩
    · exact absurd e hne
    · exact h1
  refine h.move hg.os hg.tape ⟨hg.output, hdr⟩ hg.size ?_ ?_ ?_ ?_ htie ?_
  · intro k hk hne
    exact hg.block k hk (fun e => by
      obtain ⟨_, h2⟩ := hbk k e.symm
      exact hne m h2)
  · intro n n' k h1 h2
    rcases hρ n k h1 with ⟨e1, o1⟩ | ⟨e1, o1, o1'⟩ <;> rcases hρ n' k h2 with ⟨e2, o2⟩ | ⟨e2, o2, o2'⟩
    · rw [e1, e2]
    · rcases (hat k o1).2 with hh | hh
      · exact absurd (o1.symm.trans hh) o2'
      · have := (h.acc n' k o2).1; omega
    · rcases (hat k o2).2 with hh | hh
      · exact absurd (o2.symm.trans hh) o1'
      · have := (h.acc n k o1).1; omega
    · exact h.inj n n' k o1 o2
  · intro n k h1
    rcases hρ n k h1 with ⟨_, o1⟩ | ⟨_, o1, _⟩
    · exact (hat k o1).1
    · exact Nat.lt_of_lt_of_le (h.acc n k o1).1 hg.size
  · intro n k h1 hlt
    rcases hρ n k h1 with ⟨_, o1⟩ | ⟨_, o1, _⟩
    · rcases (hat k o1).2 with hh | hh
      · exact ⟨m, (hbk k (hh ▸ o1)).2⟩
      · omega
    · exact ⟨n, o1⟩
  · intro hs l
    rw [look_cons]
    by_cases e : Loc.row d = l
    · subst e
      rw [if_pos rfl]
      refine ⟨by simp [Tie.bind], by simp [Tie.bind], ?_⟩
      have : (τ0.bind d v'.ownBlock v' true).ν d = v' := by simp [Tie.bind]
      rw [this]
      exact hrow _ hs
    · rw [if_neg e]
      have hold : ∀ l, l ≠ .row d → (∀ n ∈ l.names, b.isSome = true → n ≠ m) → Holds w' (E.S (τ0.bind d v'.ownBlock v' true)) (τ0.bind d v'.ownBlock v' true) a l (look σ l) := fun l hne hnm => by
        by_cases hgone : look σ l = .gone
        · rw [hgone]; cases l <;> exact trivial
        refine (h.get l).step hs (fun n hn => hb n ?_) (fun n hn => ?_)
        · rintro rfl
          exact names_fresh hd l hn
        · have hnd : n ≠ d := by
            rintro rfl
            exact hgone (look_fresh hd hn)
          refine ⟨(hb n hnd).1, (hb n hnd).2, by simp [Tie.bind, hnd, τ0], ?_, fun k hk => hg.block k (h.acc n k hk).1 (fun e2 => ?_)⟩
          · simp only [Tie.bind, if_neg hnd, τ0]
            exact if_neg fun hc => hnm n hn hc.1 hc.2
          · obtain ⟨_, h2⟩ := hbk k e2.symm
            exact hnm n hn (by rw [← e2]; rfl) (h.inj n m k hk h2)
      by_cases hbs : b.isSome = true
      · rw [if_pos hbs, look_cons]
        by_cases e2 : Loc.row m = l
        · subst e2
          rw [if_pos rfl]
          exact trivial
        · rw [if_neg e2]
          by_cases e3 : m ∈ l.names
          · have hκm : τ.κ m = true := by
              rcases hm with hm | ⟨_, _, hm⟩
              · rw [hm] at hbs; cases hbs
              · exact hm
            rw [(h.get l).rowOnly hκm e3 (fun e' => e2 e'.symm)]
            cases l <;> exact trivial
          · refine hold l (fun e' => e e'.symm) (fun n hn _ => ?_)
            rintro rfl
            exact e3 hn
      · rw [if_neg hbs]
        exact hold l (fun e' => e e'.symm) (fun _ _ hh => absurd hh hbs)

theorem RowOk.toT {w : World} {S : Nat → Prop} {v : Value} {e sz : Nat} {es : List (List T)} (h : RowOk w S v e sz es) (hS : ∀ k, v.ownBlock = some k → S k) : RepT w S (.sl es) v := by
  obtain ⟨h0, hsz, xs, ho, hr⟩ := h
  rcases ho.2 with ⟨rfl, hn⟩ | ⟨g, cap, cur, rfl, _, _, h1, h2, _⟩
  · have : es = [] := List.eq_nil_of_length_eq_zero hn
    subst this
    exact .nil
  · refine .sl (vs := fun i j => xs.getD (i * sz + j) undef) sz rfl h1 h2 h0 (hS g rfl) hsz (fun i cs j t a b => ?_) (fun i cs j t a b => ?_)
    · obtain ⟨u, hu, _⟩ := hr i cs j t a b
      have := ho.cells (g := g) rfl _ _ hu
      rw [List.getD_eq_getElem?_getD, hu]
      exact this
    · obtain ⟨u, hu, ht⟩ := hr i cs j t a b
      rw [List.getD_eq_getElem?_getD, hu]
      exact ht

/-- A row that is written no more: it reads as a tree. -/
theorem SimAt.freeze {E : Env} {τ : Tie} {σ : St} {a : Act} {w : World} (h : SimAt E τ σ a w) {n : Nat} {e sz : Nat} {es : List (List T)} (hn : look σ (.row n) = .r e sz es) :
    ∃ τ', SimAt E τ' ((.row n, .gone) :: σ) a w ∧ τ'.ν = τ.ν ∧ τ'.β = τ.β ∧ RepT w (E.S τ') (.sl es) (τ.ν n) := by
  have hr := h.get (.row n)
  rw [hn] at hr
  obtain ⟨hκ, hb, hrow⟩ := hr
  let τ' : Tie := { τ with ρ := fun m => if m = n then none else τ.ρ m }
  have hρ : ∀ m k, τ'.ρ m = some k → m ≠ n ∧ τ.ρ m = some k := fun m k hk => by
    simp only [τ'] at hk
    by_cases e : m = n
    · rw [if_pos e] at hk; cases hk
    · rw [if_neg e] at hk; exact ⟨e, hk⟩
  have hs : ∀ k, k < w.heap.size → (E.S τ) k → (E.S τ') k ∧ w.heap[k]? = w.heap[k]? := fun k _ hk => ⟨⟨hk.1, fun m hm => hk.2 m (hρ m k hm).2⟩, rfl⟩
  refine ⟨τ', ?_, rfl, rfl, ?_⟩
  · refine h.move rfl rfl ⟨rfl, Nat.le_refl _⟩ (Nat.le_refl _) (fun _ _ _ => rfl) (fun m m' k h1 h2 => h.inj m m' k (hρ m k h1).2 (hρ m' k h2).2) (fun m k h1 => (h.acc m k (hρ m k h1).2).1) (fun m k h1 _ => ⟨m, (hρ m k h1).2⟩) (fun m _ _ => ⟨rfl, rfl, rfl, fun k hk => (hρ m k hk).2⟩) ?_
    intro hs l
    rw [look_cons]
    by_cases e : Loc.row n = l
    · subst e; rw [if_pos rfl]; exact trivial
    · rw [if_neg e]
      by_cases e2 : n ∈ l.names
      · rw [(h.get l).rowOnly hκ e2 (fun e' => e e'.symm)]
        cases l <;> exact trivial
      · refine (h.get l).step hs (fun _ _ => ⟨rfl, rfl⟩) (fun m hm => ?_)
        have hne : m ≠ n := by
          rintro rfl
          exact e2 hm
        exact ⟨rfl, rfl, rfl, by simp [τ', hne], fun _ _ => rfl⟩
  · have h2 : RowOk w (E.S τ') (τ.ν n) e sz es := hrow.step hs (fun _ _ => rfl)
    refine h2.toT fun k hk => ⟨?_, fun m hm => ?_⟩
    · rw [hb] at hk
      rcases (h.acc n k hk).2 with h3 | h3
      · exact .inr (.inr h3)
      · exact .inr (.inl h3)
    · obtain ⟨h3, h4⟩ := hρ m k hm
      rw [hb] at hk
      exact h3 (h.inj m n k h4 hk)

theorem SimAt.relabel {E : Env} {τ : Tie} {σ : St} {a : Act} {w : World} (h : SimAt E τ σ a w) {l : Loc} {x y : Val} (hl : look σ l = x) (hy : Holds w (E.S τ) τ a l x → Holds w (E.S τ) τ a l y) : SimAt E τ ((l, y) :: σ) a w where
  dfr := h.dfr
  nsz := h.nsz
  lim := h.lim
  tie := h.tie
  os := h.os
  tape := h.tape
  output := h.output
  grow := h.grow
  keep := h.keep
  inj := h.inj
  acc := h.acc
  get k := by
    rw [look_cons]
    by_cases e : l = k
    · subst e; rw [if_pos rfl]; exact hy (hl ▸ h.get l)
    · rw [if_neg e]; exact h.get k

/-! ### A store into a row -/
theorem SimAt.rowStore {E : Env} {τ : Tie} {σ : St} {a : Act} {w : World} (h : SimAt E τ σ a w) {n : Nat} {e sz : Nat} {es : List (List T)} (hn : look σ (.row n) = .r e sz es) {i j : Nat} {cs : List T} {t : T} {u : Value}
    (hi : es[i]? = some cs) (hj : j < sz) (hu : RepT w (E.S τ) t u) {b : Nat} (hb : (τ.ν n).ownBlock = some b) :
    SimAt E τ ((.row n, .r e sz (es.set i (cs.set j t))) :: σ) a (w.setCell ⟨b, i * sz + j, none⟩ u) := by
  have hr := h.get (.row n)
  rw [hn] at hr
  obtain ⟨hκ, hρ, h0, hsz, xs, ho, hrep⟩ := hr
  have hρ' : τ.ρ n = some b := hρ ▸ hb
  refine h.move rfl rfl ⟨rfl, Nat.le_refl _⟩ (by simp) (fun k _ hne => Below.heap_setCell w _ u k (fun e => hne n (by rw [e]; exact hρ'))) h.inj (fun m k hm => by simpa using (h.acc m k hm).1) (fun m k hm _ => ⟨m, hm⟩) (.refl _) ?_
  intro hs l
  rw [look_cons]
  by_cases e1 : Loc.row n = l
  · subst e1
    rw [if_pos rfl]
    have hil : i < es.length := (List.getElem?_eq_some_iff.1 hi).1
    have hcl : cs.length = sz := hsz cs (List.mem_of_getElem? hi)
    refine ⟨hκ, hρ, h0, fun c hc => ?_, xs.set (i * sz + j) u, ?_, fun i' cs' j' t' a1 a2 => ?_⟩
    · rcases List.mem_or_eq_of_mem_set hc with hc | hc
      · exact hsz c hc
      · rw [hc, List.length_set, hcl]
    · rw [List.length_set]
      rcases ho.2 with ⟨hv, _⟩ | ⟨g, cap, cur, hv, hg, hh, h1, h2, h3, h4⟩
      · rw [hv] at hb; simp [Value.ownBlock] at hb
      · have hgb : g = b := by rw [hv] at hb; simpa [Value.ownBlock] using hb
        subst hgb
        rw [hv] at ho ⊢
        exact (ho.stored (i * sz + j) u).1
    · have hj' : j' < sz := by
        have : cs'.length = sz := by
          have hm : cs' ∈ es.set i (cs.set j t) := List.mem_of_getElem? a1
          rcases List.mem_or_eq_of_mem_set hm with hc | hc
          · exact hsz _ hc
          · rw [hc, List.length_set, hcl]
        rw [← this]; exact (List.getElem?_eq_some_iff.1 a2).1
      have inj' : ∀ i' j', j' < sz → i * sz + j = i' * sz + j' → i = i' ∧ j = j' := fun i' j' hj' he => by
        have h1 := idx_div (i := i) hj
        have h2 := idx_div (i := i') hj'
        rw [he] at h1
        exact ⟨h1.1.symm.trans h2.1, h1.2.symm.trans h2.2⟩
      have hxl : i * sz + j < xs.length := by
        have := Nat.mul_le_mul_right sz (show i + 1 ≤ es.length by omega)
        rw [Nat.add_mul] at this
        have := ho.1
        omega
      by_cases ei : i = i'
      · subst ei
        rw [List.getElem?_set_self hil] at a1
        injection a1 with a1
        subst a1
        by_cases ej : j = j'
        · subst ej
          rw [List.getElem?_set_self (by omega)] at a2
          injection a2 with a2
          subst a2
          exact ⟨u, List.getElem?_set_self hxl, hu.step hs⟩
        · rw [List.getElem?_set_ne ej] at a2
          obtain ⟨u', hu', ht⟩ := hrep i cs j' t' hi a2
          exact ⟨u', by rw [List.getElem?_set_ne (fun he => ej (inj' i j' hj' he).2)]; exact hu', ht.step hs⟩
      · rw [List.getElem?_set_ne ei] at a1
        obtain ⟨u', hu', ht⟩ := hrep i' cs' j' t' a1 a2
        exact ⟨u', by rw [List.getElem?_set_ne (fun he => ei (inj' i' j' hj' he).1)]; exact hu', ht.step hs⟩
  · rw [if_neg e1]
    have hl := h.get l
    generalize look σ l = x at hl ⊢
    cases x with
    | gone => cases l <;> exact trivial
    | m x => cases l with
      | tmp t => exact RepM.step (show RepM w _ _ _ _ from hl) hs fun _ _ => ⟨rfl, rfl⟩
      | _ => exact hl
    | c x => cases l with
      | cell m k =>
        obtain ⟨hq, h1, h2, u', h3, h4⟩ := hl
        refine ⟨hq, h1, by simpa using h2, u', ?_, h4.step hs fun _ _ => ⟨rfl, rfl⟩⟩
        rw [World.cell?_setCell_other]
        · exact h3
        · intro he
          injection he with he1 he2
          have : n = m := h.inj n m b hρ' (by rw [he1]; exact h1)
          subst this
          rw [hq] at hκ; cases hκ
      | _ => exact hl
    | r e' sz' es' => cases l with
      | row m =>
        obtain ⟨hq, h1, h2⟩ := hl
        refine ⟨hq, h1, h2.step hs fun k hk => Below.heap_setCell w _ u k ?_⟩
        rintro rfl
        rw [h1] at hk
        exact e1 (by rw [h.inj n m _ hρ' hk])
      | _ => exact hl
    | o x => cases l with
      | obj m =>
        obtain ⟨hq, h1, o, h2, h3⟩ := hl
        refine ⟨hq, h1, o, (Below.heap_setCell w _ u _ fun hbm => ?_).trans h2, h3.step hs⟩
        have : n = m := h.inj n m b hρ' (by rw [h1]; exact congrArg some hbm)
        subst this
        rw [hq] at hκ; cases hκ
      | _ => exact hl

theorem RepC.one {w : World} {S : Nat → Prop} {τ : Tie} {c : C} {v : Value} (h : RepC w S τ c v) : v.oneCell' = true := by
  cases c with
  | t x => exact RepT.one h
  | row n => exact h.2
  | ptr n off => rw [show v = _ from h]; rfl
  | eptr n sz i j => obtain ⟨b, _, rfl⟩ := h; rfl
  | tptr cs off => obtain ⟨ad, rfl, _⟩ := h; rfl
  | fn f caps => rw [show v = _ from h]; rfl
  | tight es => exact h.2.one
  | seg n sz i m =>
    rcases h with ⟨_, A, c, rfl⟩ | ⟨b, c, _, rfl⟩ <;> rfl
end Go.PM
