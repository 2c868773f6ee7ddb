/- A part of a layer between the model's runs and plain values: steps of code simulate plain functions; no program is named here. -/
import Derived.Test.YtidgbllladaahaaPmK
set_option linter.all false
namespace Go.PM
open Go Go.RowKit

/-! ### Words for the functions' own forms -/
def at_ {α : Type} (l : List α) (i : Int) : Option α := if i < 0 then none else l[i.toNat]?
def drop_ {α : Type} (l : List α) (i : Int) : Option (List α) := if 0 ≤ i ∧ i ≤ l.length then some (l.drop i.toNat) else none
def take_ {α : Type} (l : List α) (i : Int) : Option (List α) := if 0 ≤ i ∧ i ≤ l.length then some (l.take i.toNat) else none
def cut_ {α : Type} (l : List α) (i j : Int) : Option (List α) := if 0 ≤ i ∧ i ≤ j ∧ j ≤ l.length then some ((l.take j.toNat).drop i.toNat) else none
def app_ {α : Type} (l m : List α) : Option (List α) := if l.length + m.length ≤ 1000000000 then some (l ++ m) else none
def set_ {α : Type} (l : List α) (i : Int) (x : α) : List α := l.set i.toNat x
/-- It is so, or nothing comes. -/
def need (p : Prop) [Decidable p] : Option Unit := if p then some () else none
/-- A loop: at most so many rounds. -/
def loopO {α β : Type} (body : α → Option (α ⊕ β)) : Nat → α → Option β
  | 0, _ => none
  | n + 1, x => (body x).bind fun
    | .inl y => loopO body n y
    | .inr b => some b

theorem bind_some {α β : Type} {o : Option α} {f : α → Option β} {b : β} (h : o.bind f = some b) : ∃ a, o = some a ∧ f a = some b := Option.bind_eq_some_iff.1 h
theorem of_true {α : Type} {c : Bool} {x y r : α} (hc : c = true) (h : (bif c then x else y) = r) : x = r := by subst hc; exact h
theorem of_false {α : Type} {c : Bool} {x y r : α} (hc : c = false) (h : (bif c then x else y) = r) : y = r := by subst hc; exact h
theorem at_nn {α : Type} {l : List α} {i : Int} {v : α} (h : at_ l i = some v) : 0 ≤ i := by
  unfold at_ at h; split at h
  · cases h
  · omega
theorem at_some {α : Type} {l : List α} {i : Int} {v : α} (h : at_ l i = some v) : l[i.toNat]? = some v := by
  unfold at_ at h; split at h
  · cases h
  · exact h
theorem at_get {α : Type} {l : List α} {i : Int} {v : α} {f : α → List T} (h : at_ l i = some v) : (l.map f)[i.toNat]? = some (f v) := by rw [List.getElem?_map, at_some h]; rfl
theorem at_lt {α : Type} {l : List α} {i : Int} {v : α} {f : α → List T} (h : at_ l i = some v) : i.toNat < (l.map f).length := by
  rw [List.length_map]; exact (List.getElem?_eq_some_iff.1 (at_some h)).1
theorem need_of {p : Prop} [Decidable p] {u : Unit} (h : need p = some u) : p := by
  unfold need at h; split at h
  · assumption
  · cases h
theorem loop_succ {α β : Type} {body : α → Option (α ⊕ β)} {n : Nat} {x : α} {b : β} (h : loopO body (n + 1) x = some b) : (∃ y, body x = some (.inl y) ∧ loopO body n y = some b) ∨ body x = some (.inr b) := by
  obtain ⟨s, h1, h2⟩ := bind_some h
  cases s with
  | inl y => exact .inl ⟨y, h1, h2⟩
  | inr b' => simp only [Option.some.injEq] at h2; subst h2; exact .inr h1
theorem loop_zero {α β : Type} {body : α → Option (α ⊕ β)} {x : α} {b : β} : ¬ loopO body 0 x = some b := by simp [loopO]
theorem emb_len {α : Type} {f : α → List T} {n : Nat} (h : ∀ x, (f x).length = n) (l : List α) : ∀ cs ∈ l.map f, cs.length = n := by
  intro cs hcs
  obtain ⟨x, _, rfl⟩ := List.mem_map.1 hcs
  exact h x
theorem len_emb {α : Type} {f : α → List T} (l : List α) : (((l.map f).length : Nat) : Int) = (l.length : Int) := by rw [List.length_map]

abbrev mB (b : Bool) : Val := .m (.one (.t (.v (.bool b))))
theorem EvR.le {x : Operand} {m m' : M} {rd : List (Loc × Val)} (h : EvR x m rd) (hle : VLe (.m m) (.m m')) : EvR x m' rd := fun E τ σ a w hr hs => by
  have h1 := hle w (E.S τ) τ ⟨#[a.eval x], []⟩ (.tmp 0) (by simpa [Holds] using h E τ σ a w hr hs)
  simpa [Holds] using h1
theorem EvR.nilT : EvR (.const (.slice none 0 0)) (.one (.t (.sl []))) [] := fun _ _ _ _ _ _ _ => RepT.nil
theorem LCore.wr {P : Program} {N : Nat} {o : Oper} {rd wr wr' : List (Loc × Val)} {nw : List Nat} (h : LCore P N o rd wr nw) (e : wr = wr') : LCore P N o rd wr' nw := e ▸ h

section
variable {P : Program} {N : Nat} {o : Oper} {rx ry rl rh rm : List (Loc × Val)} {d : Nat} {t e : TypeId} {x y lo hi mx : Operand} {i : TypeInfo} {α : Type} {l : List α} {f : α → List T} {k kl kh km : IntKind} {n h m : Int}

theorem k_len (hn : ∀ x, (f x).length = i.size) (h0 : 0 < i.size) (ho : o.op = .call { callee := .builtin .len, args := #[x], argTypes := #[t] }) (hd : o.dst = some d) (hN : d < N)
    (ht : P.underlying t = some (.slice e)) (hx : EvSrc x i.size (l.map f) rx) : LCore P N o rx [(.tmp d, .m (.one (.t (.v (.int .i64 (l.length : Int))))))] [] :=
  (c_len ho hd hN ht hx).wr (by rw [List.length_map])
theorem src_tree (hn : ∀ x, (f x).length = i.size) (h0 : 0 < i.size) (h : EvR x (.one (.t (.sl (l.map f)))) rx) : EvSrc x i.size (l.map f) rx := .tree h h0 (emb_len hn l)
theorem src_tight (hn : ∀ x, (f x).length = i.size) (h0 : 0 < i.size) (h : EvR x (.one (.tight (l.map f))) rx) : EvSrc x i.size (l.map f) rx := .tight h h0 (emb_len hn l)
theorem src_nil (h0 : 0 < i.size) (h : EvR x (.one (.t (.v (.slice none 0 0)))) rx) : EvSrc x i.size (([] : List α).map f) rx := .nil h h0
theorem src_row {r : Nat} (h : EvR x (.one (.row r)) rx) : EvSrc x i.size (l.map f) (rx ++ [(.row r, .r e i.size (l.map f))]) := .row h

theorem k_index {v : α} (hv : at_ l n = some v) (hn : (f v).length = i.size) (ho : o.op = .indexAddr t x y) (hd : o.dst = some d) (hN : d < N) (ht : P.underlying t = some (.slice e)) (hi : P.info? e = some i)
    (hx : EvR x (.one (.t (.sl (l.map f)))) rx) (hy : EvR y (.one (.t (.v (.int k n)))) ry) : LCore P N o (rx ++ ry) [(.tmp d, .m (.one (.tptr (f v) 0)))] [] :=
  c_indexAddr ho hd hN ht hi hx hy (at_nn hv) (at_get hv) hn
theorem k_indexRow {v : α} {r sz : Nat} (hv : at_ l n = some v) (hn : sz = i.size) (ho : o.op = .indexAddr t x y) (hd : o.dst = some d) (hN : d < N) (ht : P.underlying t = some (.slice e)) (hi : P.info? e = some i)
    (hx : EvR x (.one (.row r)) rx) (hy : EvR y (.one (.t (.v (.int k n)))) ry) : LCore P N o (rx ++ ry ++ [(.row r, .r e sz (l.map f))]) [(.tmp d, .m (.one (.eptr r sz n.toNat 0)))] [] :=
  c_indexAddrRow ho hd hN ht hi hx hy (at_nn hv) (at_lt hv) hn
theorem k_setRow1 {old new : α} {r sz j : Nat} {tr : T} (hv : at_ l n = some old) (hj : j < (f old).length) (hnew : (f old).set j tr = f new) (ho : o.op = .store t x y) (hd : o.dst = none) (hi : P.info? t = some i) (h1 : i.size = 1)
    (hx : EvR x (.one (.eptr r sz n.toNat j)) rx) (hy : EvR y (.one (.t tr)) ry) : LCore P N o (rx ++ ry ++ [(.row r, .r e sz (l.map f))]) [(.row r, .r e sz ((set_ l n new).map f))] [] :=
  (c_storeRow ho hd hi h1 (at_get hv) hj hx hy).wr (by rw [hnew, set_, List.map_set])
theorem k_setRowN {old new : α} {r sz j : Nat} {ts : List T} (hv : at_ l n = some old) (hj : j + ts.length ≤ sz) (hnew : splice (f old) j ts = f new) (ho : o.op = .store t x y) (hd : o.dst = none) (hi : P.info? t = some i) (h1 : i.size = ts.length)
    (hx : EvR x (.one (.eptr r sz n.toNat j)) rx) (hy : EvR y (.agg (ts.map .t)) ry) : LCore P N o (rx ++ ry ++ [(.row r, .r e sz (l.map f))]) [(.row r, .r e sz ((set_ l n new).map f))] [] :=
  (c_storeRowN (at_get hv) hj ho hd hi h1 hx hy).wr (by rw [hnew, set_, List.map_set])

theorem drop_of {v : List α} (hv : drop_ l n = some v) : (0 ≤ n ∧ n ≤ ((l.map f).length : Int)) ∧ v.map f = (l.map f).drop n.toNat := by
  unfold drop_ at hv; split at hv
  · rename_i h; simp only [Option.some.injEq] at hv; subst hv; simpa [List.map_drop] using h
  · cases hv
theorem take_of {v : List α} (hv : take_ l n = some v) : (0 ≤ n ∧ n ≤ ((l.map f).length : Int)) ∧ v.map f = (l.map f).take n.toNat := by
  unfold take_ at hv; split at hv
  · rename_i h; simp only [Option.some.injEq] at hv; subst hv; simpa [List.map_take] using h
  · cases hv
theorem cut_of {v : List α} (hv : cut_ l n h = some v) : (0 ≤ n ∧ n ≤ h ∧ h ≤ ((l.map f).length : Int)) ∧ v.map f = ((l.map f).take h.toNat).drop n.toNat := by
  unfold cut_ at hv; split at hv
  · rename_i h; simp only [Option.some.injEq] at hv; subst hv; simpa [List.map_drop, List.map_take] using h
  · cases hv
theorem k_sliceL {v : List α} (hv : drop_ l n = some v) (hn : ∀ x, (f x).length = i.size) (ho : o.op = .slice t x (some lo) none none) (hd : o.dst = some d) (hN : d < N) (ht : P.underlying t = some (.slice e)) (hi : P.info? e = some i)
    (hx : EvT x (l.map f) rx) (hlo : EvR lo (.one (.t (.v (.int kl n)))) rl) : LCore P N o (rx ++ rl) [(.tmp d, .m (.one (.t (.sl (v.map f)))))] [] :=
  c_slice_l (drop_of hv).1 (drop_of hv).2 ho hd hN ht hi (emb_len hn l) hx hlo
theorem k_sliceH {v : List α} (hv : take_ l h = some v) (hn : ∀ x, (f x).length = i.size) (ho : o.op = .slice t x none (some hi) none) (hd : o.dst = some d) (hN : d < N) (ht : P.underlying t = some (.slice e)) (hi' : P.info? e = some i)
    (hx : EvT x (l.map f) rx) (hhi : EvR hi (.one (.t (.v (.int kh h)))) rh) : LCore P N o (rx ++ rh) [(.tmp d, .m (.one (.t (.sl (v.map f)))))] [] :=
  c_slice_h (take_of hv).1 (take_of hv).2 ho hd hN ht hi' (emb_len hn l) hx hhi
theorem k_sliceLH {v : List α} (hv : cut_ l n h = some v) (hn : ∀ x, (f x).length = i.size) (ho : o.op = .slice t x (some lo) (some hi) none) (hd : o.dst = some d) (hN : d < N) (ht : P.underlying t = some (.slice e)) (hi' : P.info? e = some i)
    (hx : EvT x (l.map f) rx) (hlo : EvR lo (.one (.t (.v (.int kl n)))) rl) (hhi : EvR hi (.one (.t (.v (.int kh h)))) rh) : LCore P N o (rx ++ (rl ++ rh)) [(.tmp d, .m (.one (.t (.sl (v.map f)))))] [] :=
  c_slice_lh (cut_of hv).1 (cut_of hv).2 ho hd hN ht hi' (emb_len hn l) hx hlo hhi
theorem k_sliceHM {v : List α} (hv : take_ l h = some v) (hm : m = h) (hn : ∀ x, (f x).length = i.size) (ho : o.op = .slice t x none (some hi) (some mx)) (hd : o.dst = some d) (hN : d < N) (ht : P.underlying t = some (.slice e)) (hi' : P.info? e = some i)
    (hx : EvT x (l.map f) rx) (hhi : EvR hi (.one (.t (.v (.int kh h)))) rh) (hmx : EvR mx (.one (.t (.v (.int km m)))) rm) : LCore P N o (rx ++ (rh ++ rm)) [(.tmp d, .m (.one (.tight (v.map f))))] [] :=
  c_slice_hm ⟨(take_of (f := f) hv).1.1, (take_of (f := f) hv).1.2, hm⟩ (take_of hv).2 ho hd hN ht hi' (emb_len hn l) hx hhi hmx

variable {z : Value} {bytes sz : Nat} {l2 : List α}
theorem app_of {v : List α} (hv : app_ l l2 = some v) : l.length + l2.length ≤ 1000000000 ∧ v = l ++ l2 := by
  unfold app_ at hv; split at hv
  · rename_i h; simp only [Option.some.injEq] at hv; exact ⟨h, hv.symm⟩
  · cases hv
theorem fits63 {n b : Nat} (h1 : n ≤ 1000000000) (h2 : b ≤ 140000) : n ≤ maxLen ∧ n * b ≤ 140737488355328 := by
  refine ⟨by simp only [maxLen]; omega, ?_⟩
  have := Nat.mul_le_mul h1 h2
  omega
theorem k_appendRow {s : Operand} {m : Nat} {v : List α} {rs : List (Loc × Val)} (hv : app_ l l2 = some v) (hb : bytes ≤ 140000) (hmd : m ≠ d)
    (ho : o.op = .call { callee := .builtin .append, args := #[s, x], argTypes := #[t, t] }) (hd : o.dst = some d) (hN : d < N)
    (ht : P.underlying t = some (.slice e)) (hi : P.info? e = some i) (hz : i.zero = some z) (hsize : i.size = sz) (hby : i.bytes = bytes) (hzs : z.cells.size = sz) (h0 : 0 < sz)
    (hs : EvR s (.one (.row m)) rs) (hx : EvSrc x sz (l2.map f) rx) :
    LCore P N o (rs ++ rx ++ [(.row m, .r e sz (l.map f))]) [(.tmp d, .m (.one (.row d))), (.row d, .r e sz (v.map f)), (.row m, .gone)] [d] :=
  (c_appendRow (m := m) (es := l.map f) ho hd hN ht hi hz hsize hby hzs h0 hs hx hmd (by simpa using (fits63 (app_of hv).1 hb).1) (by simpa using (fits63 (app_of hv).1 hb).2)).wr (by rw [(app_of hv).2, List.map_append])
theorem k_appendNil {s : Operand} {v : List α} {rs : List (Loc × Val)} (hv : app_ [] l2 = some v) (hb : bytes ≤ 140000)
    (ho : o.op = .call { callee := .builtin .append, args := #[s, x], argTypes := #[t, t] }) (hd : o.dst = some d) (hN : d < N)
    (ht : P.underlying t = some (.slice e)) (hi : P.info? e = some i) (hz : i.zero = some z) (hsize : i.size = sz) (hby : i.bytes = bytes) (hzs : z.cells.size = sz) (h0 : 0 < sz)
    (hs : EvR s (.one (.t (.v (.slice none 0 0)))) rs) (hx : EvSrc x sz (l2.map f) rx) :
    LCore P N o (rs ++ rx) [(.tmp d, .m (.one (.row d))), (.row d, .r e sz (v.map f))] [d] :=
  (c_appendNil ho hd hN ht hi hz hsize hby hzs h0 hs hx (by simpa using (fits63 (app_of hv).1 hb).1) (by simpa using (fits63 (app_of hv).1 hb).2)).wr (by rw [(app_of hv).2, List.nil_append])
end
end Go.PM
