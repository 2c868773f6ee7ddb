/- A part of a layer between the model's runs and plain values: steps of code simulate plain functions; no program is named here. -/
import Derived.Test.YtidgbllladaahaaPmH
set_option linter.all false
namespace Go.PM
open Go Go.RowKit

section
variable {P : Program} {N : Nat} {o : Oper} {rx ry : List (Loc × Val)} {d : Nat} {t t2 : TypeId} {x y : Operand} {k : IntKind} {a b : Int}

/-! ### Numbers -/
theorem guard_quiet {op : BinOp} {w : World} : (eqGuard op t x y (.int k a) (.int k b)).run P w = .ok () w := by
  cases op <;> simp [eqGuard]

theorem c_int {op : BinOp} {r : Value} (ho : o.op = .binOp op t x y t2) (hd : o.dst = some d) (hN : d < N) (hx : EvR x (.one (.t (.v (.int k a)))) rx) (hy : EvR y (.one (.t (.v (.int k b)))) ry) (hp : plain r = true)
    (hb : ∀ w, (binOp op t (.int k a) (.int k b)).run P w = .ok r w) : LCore P N o (rx ++ ry) [(.tmp d, .m (.one (.t (.v r))))] [] :=
  c_binop ho hd hN hx hy hp fun w => by simp [guard_quiet, hb w]

theorem c_add (ho : o.op = .binOp .add t x y t2) (hd : o.dst = some d) (hN : d < N) (hx : EvR x (.one (.t (.v (.int k a)))) rx) (hy : EvR y (.one (.t (.v (.int k b)))) ry) : LCore P N o (rx ++ ry) [(.tmp d, .m (.one (.t (.v (.int k (k.wrap (a + b)))))))] [] :=
  c_int ho hd hN hx hy rfl fun w => by simp [binOp, Op.intArith]
theorem c_sub (ho : o.op = .binOp .sub t x y t2) (hd : o.dst = some d) (hN : d < N) (hx : EvR x (.one (.t (.v (.int k a)))) rx) (hy : EvR y (.one (.t (.v (.int k b)))) ry) : LCore P N o (rx ++ ry) [(.tmp d, .m (.one (.t (.v (.int k (k.wrap (a - b)))))))] [] :=
  c_int ho hd hN hx hy rfl fun w => by simp [binOp, Op.intArith]
theorem c_mul (ho : o.op = .binOp .mul t x y t2) (hd : o.dst = some d) (hN : d < N) (hx : EvR x (.one (.t (.v (.int k a)))) rx) (hy : EvR y (.one (.t (.v (.int k b)))) ry) : LCore P N o (rx ++ ry) [(.tmp d, .m (.one (.t (.v (.int k (k.wrap (a * b)))))))] [] :=
  c_int ho hd hN hx hy rfl fun w => by simp [binOp, Op.intArith]
theorem c_quo (hb : b ≠ 0) (ho : o.op = .binOp .quo t x y t2) (hd : o.dst = some d) (hN : d < N) (hx : EvR x (.one (.t (.v (.int k a)))) rx) (hy : EvR y (.one (.t (.v (.int k b)))) ry) : LCore P N o (rx ++ ry) [(.tmp d, .m (.one (.t (.v (.int k (k.wrap (a.tdiv b)))))))] [] :=
  c_int ho hd hN hx hy rfl fun w => by simp [binOp, Op.intDiv, hb]
theorem c_rem (hb : b ≠ 0) (ho : o.op = .binOp .rem t x y t2) (hd : o.dst = some d) (hN : d < N) (hx : EvR x (.one (.t (.v (.int k a)))) rx) (hy : EvR y (.one (.t (.v (.int k b)))) ry) : LCore P N o (rx ++ ry) [(.tmp d, .m (.one (.t (.v (.int k (a.tmod b))))))] [] :=
  c_int ho hd hN hx hy rfl fun w => by simp [binOp, Op.intDiv, hb]
theorem c_lss (ho : o.op = .binOp .lss t x y t2) (hd : o.dst = some d) (hN : d < N) (hx : EvR x (.one (.t (.v (.int k a)))) rx) (hy : EvR y (.one (.t (.v (.int k b)))) ry) : LCore P N o (rx ++ ry) [(.tmp d, .m (.one (.t (.v (.bool (decide (a < b)))))))] [] :=
  c_int ho hd hN hx hy rfl fun w => by simp [binOp, Op.intCmp]
theorem c_leq (ho : o.op = .binOp .leq t x y t2) (hd : o.dst = some d) (hN : d < N) (hx : EvR x (.one (.t (.v (.int k a)))) rx) (hy : EvR y (.one (.t (.v (.int k b)))) ry) : LCore P N o (rx ++ ry) [(.tmp d, .m (.one (.t (.v (.bool (decide (a ≤ b)))))))] [] :=
  c_int ho hd hN hx hy rfl fun w => by simp [binOp, Op.intCmp]
theorem c_gtr (ho : o.op = .binOp .gtr t x y t2) (hd : o.dst = some d) (hN : d < N) (hx : EvR x (.one (.t (.v (.int k a)))) rx) (hy : EvR y (.one (.t (.v (.int k b)))) ry) : LCore P N o (rx ++ ry) [(.tmp d, .m (.one (.t (.v (.bool (decide (b < a)))))))] [] :=
  c_int ho hd hN hx hy rfl fun w => by simp [binOp, Op.intCmp]
theorem c_geq (ho : o.op = .binOp .geq t x y t2) (hd : o.dst = some d) (hN : d < N) (hx : EvR x (.one (.t (.v (.int k a)))) rx) (hy : EvR y (.one (.t (.v (.int k b)))) ry) : LCore P N o (rx ++ ry) [(.tmp d, .m (.one (.t (.v (.bool (decide (b ≤ a)))))))] [] :=
  c_int ho hd hN hx hy rfl fun w => by simp [binOp, Op.intCmp]
theorem c_eql (ho : o.op = .binOp .eql t x y t2) (hd : o.dst = some d) (hN : d < N) (hx : EvR x (.one (.t (.v (.int k a)))) rx) (hy : EvR y (.one (.t (.v (.int k b)))) ry) : LCore P N o (rx ++ ry) [(.tmp d, .m (.one (.t (.v (.bool (decide (a = b)))))))] [] :=
  c_int ho hd hN hx hy rfl fun w => by simp [binOp, Op.intCmp, BEq.beq]
theorem c_neq (ho : o.op = .binOp .neq t x y t2) (hd : o.dst = some d) (hN : d < N) (hx : EvR x (.one (.t (.v (.int k a)))) rx) (hy : EvR y (.one (.t (.v (.int k b)))) ry) : LCore P N o (rx ++ ry) [(.tmp d, .m (.one (.t (.v (.bool (!decide (a = b)))))))] [] :=
  c_int ho hd hN hx hy rfl fun w => by simp [binOp, Op.intCmp, bne, BEq.beq]
def bitsAnd (k : IntKind) (a b : Int) : Int := k.wrap (BitVec.ofInt k.bits a &&& BitVec.ofInt k.bits b).toNat
def bitsOr (k : IntKind) (a b : Int) : Int := k.wrap (BitVec.ofInt k.bits a ||| BitVec.ofInt k.bits b).toNat
def bitsXor (k : IntKind) (a b : Int) : Int := k.wrap (BitVec.ofInt k.bits a ^^^ BitVec.ofInt k.bits b).toNat
def bitsAndNot (k : IntKind) (a b : Int) : Int := k.wrap (BitVec.ofInt k.bits a &&& ~~~ BitVec.ofInt k.bits b).toNat
theorem c_and (ho : o.op = .binOp .and t x y t2) (hd : o.dst = some d) (hN : d < N) (hx : EvR x (.one (.t (.v (.int k a)))) rx) (hy : EvR y (.one (.t (.v (.int k b)))) ry) : LCore P N o (rx ++ ry) [(.tmp d, .m (.one (.t (.v (.int k (bitsAnd k a b))))))] [] :=
  c_int ho hd hN hx hy rfl fun w => by simp [binOp, Op.intBits, bitsAnd]
theorem c_or (ho : o.op = .binOp .or t x y t2) (hd : o.dst = some d) (hN : d < N) (hx : EvR x (.one (.t (.v (.int k a)))) rx) (hy : EvR y (.one (.t (.v (.int k b)))) ry) : LCore P N o (rx ++ ry) [(.tmp d, .m (.one (.t (.v (.int k (bitsOr k a b))))))] [] :=
  c_int ho hd hN hx hy rfl fun w => by simp [binOp, Op.intBits, bitsOr]
theorem c_xor (ho : o.op = .binOp .xor t x y t2) (hd : o.dst = some d) (hN : d < N) (hx : EvR x (.one (.t (.v (.int k a)))) rx) (hy : EvR y (.one (.t (.v (.int k b)))) ry) : LCore P N o (rx ++ ry) [(.tmp d, .m (.one (.t (.v (.int k (bitsXor k a b))))))] [] :=
  c_int ho hd hN hx hy rfl fun w => by simp [binOp, Op.intBits, bitsXor]
theorem c_andNot (ho : o.op = .binOp .andNot t x y t2) (hd : o.dst = some d) (hN : d < N) (hx : EvR x (.one (.t (.v (.int k a)))) rx) (hy : EvR y (.one (.t (.v (.int k b)))) ry) : LCore P N o (rx ++ ry) [(.tmp d, .m (.one (.t (.v (.int k (bitsAndNot k a b))))))] [] :=
  c_int ho hd hN hx hy rfl fun w => by simp [binOp, Op.intBits, bitsAndNot]
def shlK (k : IntKind) (a b : Int) : Int := k.wrap (a * 2 ^ (min b.toNat k.bits))
def shrK (k : IntKind) (a b : Int) : Int := a.fdiv (2 ^ (min b.toNat k.bits))
theorem c_shl {k' : IntKind} (hb : 0 ≤ b) (ho : o.op = .binOp .shl t x y t2) (hd : o.dst = some d) (hN : d < N) (hx : EvR x (.one (.t (.v (.int k a)))) rx) (hy : EvR y (.one (.t (.v (.int k' b)))) ry) : LCore P N o (rx ++ ry) [(.tmp d, .m (.one (.t (.v (.int k (shlK k a b))))))] [] :=
  c_binop ho hd hN hx hy rfl fun w => by
    have : ¬ b < 0 := by omega
    simp [eqGuard, binOp, Op.shift, this, shlK]
theorem c_shr {k' : IntKind} (hb : 0 ≤ b) (ho : o.op = .binOp .shr t x y t2) (hd : o.dst = some d) (hN : d < N) (hx : EvR x (.one (.t (.v (.int k a)))) rx) (hy : EvR y (.one (.t (.v (.int k' b)))) ry) : LCore P N o (rx ++ ry) [(.tmp d, .m (.one (.t (.v (.int k (shrK k a b))))))] [] :=
  c_binop ho hd hN hx hy rfl fun w => by
    have : ¬ b < 0 := by omega
    simp [eqGuard, binOp, Op.shift, this, shrK]
theorem c_conv {t1 : TypeId} {k' : IntKind} (ht : P.underlying t2 = some (.int k')) (ht1 : (P.underlying t1).isSome = true) (ho : o.op = .convert t1 t2 x) (hd : o.dst = some d) (hN : d < N) (hx : EvR x (.one (.t (.v (.int k a)))) rx) : LCore P N o rx [(.tmp d, .m (.one (.t (.v (.int k' (k'.wrap a))))))] [] :=
  c_convert ho hd hN hx rfl fun w => by
    obtain ⟨u, hu⟩ := Option.isSome_iff_exists.1 ht1
    simp [convert, run_underlying ht, run_underlying hu, Conv.intToInt]
theorem c_neg (ho : o.op = .unOp .neg t x) (hd : o.dst = some d) (hN : d < N) (hx : EvR x (.one (.t (.v (.int k a)))) rx) : LCore P N o rx [(.tmp d, .m (.one (.t (.v (.int k (k.wrap (0 - a)))))))] [] :=
  c_unop ho hd hN hx rfl fun w => by simp [Op.unary, Op.intArith]
theorem c_min {ts : Array TypeId} {k' : IntKind} (ho : o.op = .call { callee := .builtin .min, args := #[x, y], argTypes := ts }) (hd : o.dst = some d) (hN : d < N) (hx : EvR x (.one (.t (.v (.int k a)))) rx) (hy : EvR y (.one (.t (.v (.int k' b)))) ry) : LCore P N o (rx ++ ry) [(.tmp d, .m (.one (.t (.v (.int k (if b < a then b else a))))))] [] :=
  c_pure hd hN fun E τ σ ac w hr hs => ⟨_, run_call_builtin ho (by simp [builtin, hx.val (agree_append.1 hr).1 hs, hy.val (agree_append.1 hr).2 hs, run_min_int2]), .v rfl⟩
theorem c_max {ts : Array TypeId} {k' : IntKind} (ho : o.op = .call { callee := .builtin .max, args := #[x, y], argTypes := ts }) (hd : o.dst = some d) (hN : d < N) (hx : EvR x (.one (.t (.v (.int k a)))) rx) (hy : EvR y (.one (.t (.v (.int k' b)))) ry) : LCore P N o (rx ++ ry) [(.tmp d, .m (.one (.t (.v (.int k (if b > a then b else a))))))] [] :=
  c_pure hd hN fun E τ σ ac w hr hs => ⟨_, run_call_builtin ho (by simp [builtin, hx.val (agree_append.1 hr).1 hs, hy.val (agree_append.1 hr).2 hs, run_max_int2]), .v rfl⟩
end

section
variable {P : Program} {N : Nat} {o : Oper} {rx ry : List (Loc × Val)} {d : Nat} {t t2 : TypeId} {x y : Operand}
/-! ### Truth -/
theorem c_not {b : Bool} (ho : o.op = .unOp .not t x) (hd : o.dst = some d) (hN : d < N) (hx : EvR x (.one (.t (.v (.bool b)))) rx) : LCore P N o rx [(.tmp d, .m (.one (.t (.v (.bool (!b))))))] [] :=
  c_unop ho hd hN hx rfl fun w => by simp [Op.unary]
theorem c_pick {c z : Operand} {b : Bool} {m : M} (ho : o.op = .pick c x y) (hd : o.dst = some d) (hN : d < N) (hc : EvR c (.one (.t (.v (.bool b)))) rx) (hz : z = (bif b then x else y)) (hx : EvR z m ry) : LCore P N o (rx ++ ry) [(.tmp d, .m m)] [] :=
  c_pure hd hN fun E τ σ a w hr hs => by
    have h1 := hc.val (agree_append.1 hr).1 hs
    refine ⟨a.eval z, ?_, hx E τ σ a w (agree_append.1 hr).2 hs⟩
    subst hz
    cases b <;> simp [execOp, ho, h1, asBool]

/-! ### Slices of slices -/
theorem slice_rep {w : World} {S : Nat → Prop} {es : List (List T)} {A : Option Addr} {n c : Nat} (h : RepT w S (.sl es) (.slice A n c)) {sz l hh m : Nat} (hsz : ∀ cs ∈ es, cs.length = sz) (h1 : l ≤ hh) (h2 : hh ≤ n) (h3 : hh ≤ m) (h4 : m ≤ c) :
    RepT w S (.sl ((es.take hh).drop l)) (sliced A l hh m sz) := by
  generalize hv : Value.slice A n c = v at h
  cases h with
  | nil =>
    injection hv with e1 e2 e3
    subst e2
    obtain rfl : hh = 0 := by omega
    obtain rfl : l = 0 := by omega
    simp only [List.take_nil, List.drop_nil, sliced, Nat.sub_zero]
    exact .nil
  | @sl _ n' c' ad vs sz' hn hc hm h0 hS hsz' hcell hrep =>
    injection hv with e1 e2 e3
    subst e1 e2 e3
    unfold sliced
    by_cases e : hh = l
    · subst e
      have : (es.take hh).drop hh = [] := by
        rw [List.drop_eq_nil_iff, List.length_take]; omega
      rw [this, Nat.sub_self]
      exact .nil
    · have hml : m ≠ l := by omega
      rw [if_neg hml, Option.map_some]
      have hne : es ≠ [] := by
        rintro rfl
        simp at hn
        omega
      obtain ⟨c0, hc0⟩ : ∃ c0, c0 ∈ es := List.exists_mem_of_ne_nil es hne
      obtain rfl : sz' = sz := (hsz' c0 hc0).symm.trans (hsz c0 hc0)
      have at_ : ∀ i, ((es.take hh).drop l)[i]? = if l + i < hh then es[l + i]? else none := fun i => by
        rw [List.getElem?_drop, List.getElem?_take]
      refine .sl (vs := fun i j => vs (l + i) j) sz' (by simp; omega) (by omega) (by omega) h0 (by rw [block_add]; exact hS) (fun cs hcs => hsz' cs ?_) (fun i cs j t a b => ?_) (fun i cs j t a b => ?_)
      · exact List.mem_of_mem_take (List.mem_of_mem_drop hcs)
      · rw [at_] at a
        split at a
        · have := hcell _ _ _ _ a b
          rw [add_add]
          rwa [show l * sz' + (i * sz' + j) = (l + i) * sz' + j by rw [Nat.add_mul]; omega]
        · simp at a
      · rw [at_] at a
        split at a
        · exact hrep _ _ _ _ a b
        · simp at a

theorem tree_shape {w : World} {S : Nat → Prop} {es : List (List T)} {v : Value} (h : RepT w S (.sl es) v) : ∃ A c, v = .slice A es.length c ∧ es.length ≤ c := by
  cases h with
  | nil => exact ⟨_, _, rfl, by simp⟩
  | sl sz hn hc => subst hn; exact ⟨_, _, rfl, hc⟩

/-- An operand that reads as a list. -/
def EvT (x : Operand) (es : List (List T)) (rd : List (Loc × Val)) : Prop := ∀ (E : Env) (τ : Tie) (σ : St) (a : Act) (w : World), agree σ rd → SimAt E τ σ a w → RepT w (E.S τ) (.sl es) (a.eval x)
theorem EvT.tree {es : List (List T)} (h : EvR x (.one (.t (.sl es))) rx) : EvT x es rx := fun E τ σ a w hr hs => h E τ σ a w hr hs
theorem EvT.tight {es : List (List T)} (h : EvR x (.one (.tight es)) rx) : EvT x es rx := fun E τ σ a w hr hs => (h E τ σ a w hr hs).2
theorem EvT.nil (h : EvR x (.one (.t (.v (.slice none 0 0)))) rx) : EvT x [] rx := fun E τ σ a w hr hs => RepT.of_nil (h E τ σ a w hr hs)

variable {e : TypeId} {i : TypeInfo} {sz : Nat} {es es' : List (List T)} {lo hi mx : Operand} {rl rh rm : List (Loc × Val)} {kl kh km : IntKind} {l h m : Int}
theorem elem_of (ht : P.underlying t = some (.slice e)) : P.elem t = e := by simp [Program.elem, ht]
theorem run_sizeOf' (hi : P.info? e = some i) (w : World) : (sizeOf e).run P w = .ok i.size w := by simp [sizeOf, typeInfo, hi]

theorem c_slice_l (hl : 0 ≤ l ∧ l ≤ es.length) (he : es' = es.drop l.toNat) (ho : o.op = .slice t x (some lo) none none) (hd : o.dst = some d) (hN : d < N) (ht : P.underlying t = some (.slice e)) (hi : P.info? e = some i) (hsz : ∀ cs ∈ es, cs.length = i.size)
    (hx : EvT x es rx) (hlo : EvR lo (.one (.t (.v (.int kl l)))) rl) : LCore P N o (rx ++ rl) [(.tmp d, .m (.one (.t (.sl es'))))] [] :=
  c_pure hd hN fun E τ σ a w hr hs => by
    have h1 := hx E τ σ a w (agree_append.1 hr).1 hs
    have h2 := hlo.val (agree_append.1 hr).2 hs
    obtain ⟨A, c, hv, hc⟩ := tree_shape h1
    rw [hv] at h1
    have hu : P.underlying t = some (.slice (P.elem t)) := by rw [elem_of ht]; exact ht
    refine ⟨sliced A l.toNat es.length c i.size, ?_, ?_⟩
    · simp only [execOp, ho, Option.map_some, Option.map_none, hv, h2]
      refine run_value _ ?_
      rw [run_sliceAt_slice _ _ _ _ _ _ hu, run_slice_l _ _ _ _ _ hu _ _ hl.1 hl.2, elem_of ht, run_sizeOf' hi]
      rfl
    · have := slice_rep (l := l.toNat) (hh := es.length) (m := c) h1 hsz (by omega) (Nat.le_refl _) hc (Nat.le_refl _)
      rw [List.take_length] at this
      rw [he]
      exact this
theorem c_slice_h (hh : 0 ≤ h ∧ h ≤ es.length) (he : es' = es.take h.toNat) (ho : o.op = .slice t x none (some hi) none) (hd : o.dst = some d) (hN : d < N) (ht : P.underlying t = some (.slice e)) (hi' : P.info? e = some i) (hsz : ∀ cs ∈ es, cs.length = i.size)
    (hx : EvT x es rx) (hhi : EvR hi (.one (.t (.v (.int kh h)))) rh) : LCore P N o (rx ++ rh) [(.tmp d, .m (.one (.t (.sl es'))))] [] :=
  c_pure hd hN fun E τ σ a w hr hs => by
    have h1 := hx E τ σ a w (agree_append.1 hr).1 hs
    have h2 := hhi.val (agree_append.1 hr).2 hs
    obtain ⟨A, c, hv, hc⟩ := tree_shape h1
    rw [hv] at h1
    have hu : P.underlying t = some (.slice (P.elem t)) := by rw [elem_of ht]; exact ht
    refine ⟨sliced A 0 h.toNat c i.size, ?_, ?_⟩
    · simp only [execOp, ho, Option.map_some, Option.map_none, hv, h2]
      refine run_value _ ?_
      rw [run_sliceAt_slice _ _ _ _ _ _ hu, run_slice_h _ _ _ _ _ hu _ _ hh.1 (by omega), elem_of ht, run_sizeOf' hi']
      rfl
    · have := slice_rep (l := 0) (hh := h.toNat) (m := c) h1 hsz (by omega) (by omega) (by omega) (Nat.le_refl _)
      rw [he]
      simpa [RepM, RepC] using this
theorem c_slice_lh (hl : 0 ≤ l ∧ l ≤ h ∧ h ≤ es.length) (he : es' = (es.take h.toNat).drop l.toNat) (ho : o.op = .slice t x (some lo) (some hi) none) (hd : o.dst = some d) (hN : d < N) (ht : P.underlying t = some (.slice e)) (hi' : P.info? e = some i) (hsz : ∀ cs ∈ es, cs.length = i.size)
    (hx : EvT x es rx) (hlo : EvR lo (.one (.t (.v (.int kl l)))) rl) (hhi : EvR hi (.one (.t (.v (.int kh h)))) rh) : LCore P N o (rx ++ (rl ++ rh)) [(.tmp d, .m (.one (.t (.sl es'))))] [] :=
  c_pure hd hN fun E τ σ a w hr hs => by
    have h1 := hx E τ σ a w (agree_append.1 hr).1 hs
    have h2 := hlo.val (agree_append.1 (agree_append.1 hr).2).1 hs
    have h3 := hhi.val (agree_append.1 (agree_append.1 hr).2).2 hs
    obtain ⟨A, c, hv, hc⟩ := tree_shape h1
    rw [hv] at h1
    have hu : P.underlying t = some (.slice (P.elem t)) := by rw [elem_of ht]; exact ht
    refine ⟨sliced A l.toNat h.toNat c i.size, ?_, ?_⟩
    · simp only [execOp, ho, Option.map_some, Option.map_none, hv, h2, h3]
      refine run_value _ ?_
      rw [run_sliceAt_slice _ _ _ _ _ _ hu, run_slice_lh _ _ _ _ _ hu _ _ _ _ hl.1 hl.2.1 (by omega), elem_of ht, run_sizeOf' hi']
      rfl
    · have := slice_rep (l := l.toNat) (hh := h.toNat) (m := c) h1 hsz (by omega) (by omega) (by omega) (Nat.le_refl _)
      rw [he]
      exact this
theorem c_slice_hm (hh : 0 ≤ h ∧ h ≤ es.length ∧ m = h) (he : es' = es.take h.toNat) (ho : o.op = .slice t x none (some hi) (some mx)) (hd : o.dst = some d) (hN : d < N) (ht : P.underlying t = some (.slice e)) (hi' : P.info? e = some i) (hsz : ∀ cs ∈ es, cs.length = i.size)
    (hx : EvT x es rx) (hhi : EvR hi (.one (.t (.v (.int kh h)))) rh) (hmx : EvR mx (.one (.t (.v (.int km m)))) rm) : LCore P N o (rx ++ (rh ++ rm)) [(.tmp d, .m (.one (.tight es')))] [] :=
  c_pure hd hN fun E τ σ a w hr hs => by
    have h1 := hx E τ σ a w (agree_append.1 hr).1 hs
    have h2 := hhi.val (agree_append.1 (agree_append.1 hr).2).1 hs
    have h3 := hmx.val (agree_append.1 (agree_append.1 hr).2).2 hs
    obtain ⟨A, c, hv, hc⟩ := tree_shape h1
    rw [hv] at h1
    have hu : P.underlying t = some (.slice (P.elem t)) := by rw [elem_of ht]; exact ht
    obtain ⟨h4, h5, h6⟩ := hh
    subst h6
    refine ⟨sliced A 0 m.toNat m.toNat i.size, ?_, ⟨_, m.toNat, rfl⟩, ?_⟩
    · simp only [execOp, ho, Option.map_some, Option.map_none, hv, h2, h3]
      refine run_value _ ?_
      rw [run_sliceAt_slice _ _ _ _ _ _ hu, run_slice_hm _ _ _ _ _ hu _ _ _ _ h4 (by omega) (by omega), elem_of ht, run_sizeOf' hi']
      rfl
    · have := slice_rep (l := 0) (hh := m.toNat) (m := m.toNat) h1 hsz (by omega) (by omega) (by omega) (by omega)
      rw [he]
      simpa [RepM, RepC] using this
/-- A tight list is a list. -/
theorem EvR.loosen {es : List (List T)} (h : EvR x (.one (.tight es)) rx) : EvR x (.one (.t (.sl es))) rx := fun E τ σ a w hr hs => (h E τ σ a w hr hs).2
end
end Go.PM
