/- StealSome: the law returns true whatever it is handed, and what it is handed reads as it did. -/
import Derived.Test.YtidgbllladaahaaRows
import Derived.Test.YtidgbllladaahaaStealSomePure
import Derived.Test.YtidgbllladaahaaPmR
set_option linter.all false
namespace Go.Proofs.Ytidgbllladaahaa
open Go Go.PM Go.RowKit Go.ChangeShapes Go.WideShapes Go.ChangeAt
set_option linter.unusedVariables false
set_option maxRecDepth 100000
set_option maxHeartbeats 4000000
namespace stealSome
theorem Try.own : ownKnob Try.prog.godebug = none := by kernel_rfl
theorem Try.laidOut : laidOutB Try.prog = true := by kernel_rfl
theorem sh25 : ShOf Try.prog 25 [.int .u64] := .int Try.underlying25 (by kernel_rfl)
theorem sh3 : ShOf Try.prog 3 [.int .i64] := .int Try.underlying3 (by kernel_rfl)
theorem sh42 : ShOf Try.prog 42 [.sl [.int .i64]] := .slice Try.underlying42 (by kernel_rfl) sh3 (by simp)
theorem sh24 : ShOf Try.prog 24 [.sl [.sl [.int .i64]]] := .slice Try.underlying24 (by kernel_rfl) sh42 (by simp)
theorem sh58 : ShOf Try.prog 58 [.int .i64, .sl [.int .i64]] := .struct Try.underlying58 (by kernel_rfl) (.cons (a := [.int .i64]) rfl sh3 (.cons (a := [.sl [.int .i64]]) rfl sh42 .nil))
theorem sh23 : ShOf Try.prog 23 [.sl [.int .i64, .sl [.int .i64]]] := .slice Try.underlying23 (by kernel_rfl) sh58 (by simp)
theorem sh57 : ShOf Try.prog 57 [.int .i64, .int .i64] := .struct Try.underlying57 (by kernel_rfl) (.cons (a := [.int .i64]) rfl sh3 (.cons (a := [.int .i64]) rfl sh3 .nil))
theorem sh22 : ShOf Try.prog 22 [.sl [.int .i64, .int .i64]] := .slice Try.underlying22 (by kernel_rfl) sh57 (by simp)
theorem sh27 : ShOf Try.prog 27 [.sl [.int .i64, .int .i64], .int .i64, .sl [.int .i64, .sl [.int .i64]], .sl [.sl [.int .i64]], .int .u64] := .struct Try.underlying27 (by kernel_rfl) (.cons (a := [.sl [.int .i64, .int .i64]]) rfl sh22 (.cons (a := [.int .i64]) rfl sh3 (.cons (a := [.sl [.int .i64, .sl [.int .i64]]]) rfl sh23 (.cons (a := [.sl [.sl [.int .i64]]]) rfl sh24 (.cons (a := [.int .u64]) rfl sh25 .nil)))))
def R57 (x : (Int × Int)) : Prop := Ii64 x.1 ∧ Ii64 x.2
theorem el57 (cs : List T) (hl : cs.length = 2) (h : ∀ (j : Nat) (g : Sh) (t : T), ([.int .i64, .int .i64] : List Sh)[j]? = some g → cs[j]? = some t → HasSh g t) : ∃ x, cs = e57 x ∧ R57 x := by
  obtain ⟨at0, ar0, rfl, ah0⟩ := cons_of hl
  obtain ⟨at1, ar1, rfl, ah1⟩ := cons_of ah0
  obtain rfl := nil_of ah1
  have aq0 := h 0 _ _ rfl rfl
  have aq1 := h 1 _ _ rfl rfl
  obtain ⟨a0, rfl, wa0⟩ := aq0.int_of
  have ra0 := wfi64 wa0
  obtain ⟨a1, rfl, wa1⟩ := aq1.int_of
  have ra1 := wfi64 wa1
  exact ⟨(a0, a1), rfl, ⟨ra0, ra1⟩⟩
def R3 (x : (Int)) : Prop := Ii64 x
theorem el3 (cs : List T) (hl : cs.length = 1) (h : ∀ (j : Nat) (g : Sh) (t : T), ([.int .i64] : List Sh)[j]? = some g → cs[j]? = some t → HasSh g t) : ∃ x, cs = e3 x ∧ R3 x := by
  obtain ⟨at0, ar0, rfl, ah0⟩ := cons_of hl
  obtain rfl := nil_of ah0
  have aq0 := h 0 _ _ rfl rfl
  obtain ⟨a0, rfl, wa0⟩ := aq0.int_of
  have ra0 := wfi64 wa0
  exact ⟨a0, rfl, ra0⟩
def R51 (x : (Int × (List (Int)))) : Prop := Ii64 x.1 ∧ ∀ y ∈ x.2, R3 y
theorem el51 (cs : List T) (hl : cs.length = 2) (h : ∀ (j : Nat) (g : Sh) (t : T), ([.int .i64, .sl [.int .i64]] : List Sh)[j]? = some g → cs[j]? = some t → HasSh g t) : ∃ x, cs = e51 x ∧ R51 x := by
  obtain ⟨at0, ar0, rfl, ah0⟩ := cons_of hl
  obtain ⟨at1, ar1, rfl, ah1⟩ := cons_of ah0
  obtain rfl := nil_of ah1
  have aq0 := h 0 _ _ rfl rfl
  have aq1 := h 1 _ _ rfl rfl
  obtain ⟨a0, rfl, wa0⟩ := aq0.int_of
  have ra0 := wfi64 wa0
  obtain ⟨as1, rfl⟩ := aq1.sl_of
  obtain ⟨a1, rfl, ra1⟩ := lift_list (f := e3) (R := R3) aq1 (fun cs hl h => el3 cs hl h)
  exact ⟨(a0, a1), rfl, ⟨ra0, ra1⟩⟩
def R42 (x : ((List (Int)))) : Prop := ∀ y ∈ x, R3 y
theorem el42 (cs : List T) (hl : cs.length = 1) (h : ∀ (j : Nat) (g : Sh) (t : T), ([.sl [.int .i64]] : List Sh)[j]? = some g → cs[j]? = some t → HasSh g t) : ∃ x, cs = e42 x ∧ R42 x := by
  obtain ⟨at0, ar0, rfl, ah0⟩ := cons_of hl
  obtain rfl := nil_of ah0
  have aq0 := h 0 _ _ rfl rfl
  obtain ⟨as0, rfl⟩ := aq0.sl_of
  obtain ⟨a0, rfl, ra0⟩ := lift_list (f := e3) (R := R3) aq0 (fun cs hl h => el3 cs hl h)
  exact ⟨a0, rfl, ra0⟩
theorem sh5 : ShOf Try.prog 5 [.int .u8] := .int Try.underlying5 (by kernel_rfl)
theorem contract (H : Type) (enc : TypeId × Value → H) (W : World) (base : Nat) (args : Array Value) (ds gs : List (DataW H)) (before : List MemPlace)
    (hval : ∀ (j : Nat) t v, Try.f4.params[j]? = some t → args[j]? = some v → Value.okWide Try.prog W .any base t v)
    (hW : DataW.Whole enc Try.prog Try.f4.params.toList Rows.stealSomeSpec.vars false W args.toList ds gs before) :
    Calls Try.prog 4 args W fun e W' => ∃ v, e = .returned v ∧ Rows.stealSomeSpec.post enc Try.prog Try.f4 false true false false W args v W' := by
  obtain ⟨p, q, hA, _, _, _, _⟩ := id hW
  rw [show Try.f4.params.toList = [27, 3, 5] from rfl] at hA
  obtain ⟨v0, vs0, d0, ds0, p0, q0, hv0, hd0, _, h0, hB0⟩ := trodAll_cons hA
  obtain ⟨v1, vs1, d1, ds1, p1, q1, hv1, hd1, _, h1, hB1⟩ := trodAll_cons hB0
  obtain ⟨v2, vs2, d2, ds2, p2, q2, hv2, hd2, _, h2, hB2⟩ := trodAll_cons hB1
  obtain ⟨hvn, hdn, _⟩ := trodAll_nil hB2
  subst hvn hdn
  subst hd2 hv2
  subst hd1 hv1
  subst hd0
  have hget : ∀ (j : Nat) (v : Value), ([v0, v1, v2] : List Value)[j]? = some v → args[j]? = some v := fun j v h => by rw [← h, ← hv0]; simp
  obtain ⟨ts0, hl0, hs0, hr0⟩ := arg_agg Try.underlying27 sh27 h0 (hval 0 27 v0 rfl (hget 0 _ rfl))
  obtain ⟨x0_t0, x0_r0, rfl, x0_h0⟩ := cons_of hl0
  obtain ⟨x0_t1, x0_r1, rfl, x0_h1⟩ := cons_of x0_h0
  obtain ⟨x0_t2, x0_r2, rfl, x0_h2⟩ := cons_of x0_h1
  obtain ⟨x0_t3, x0_r3, rfl, x0_h3⟩ := cons_of x0_h2
  obtain ⟨x0_t4, x0_r4, rfl, x0_h4⟩ := cons_of x0_h3
  obtain rfl := nil_of x0_h4
  have x0_q0 := hs0 0 _ _ rfl rfl
  have x0_q1 := hs0 1 _ _ rfl rfl
  have x0_q2 := hs0 2 _ _ rfl rfl
  have x0_q3 := hs0 3 _ _ rfl rfl
  have x0_q4 := hs0 4 _ _ rfl rfl
  obtain ⟨x0_s0, rfl⟩ := x0_q0.sl_of
  obtain ⟨x0_0, rfl, rx0_0⟩ := lift_list (f := e57) (R := R57) x0_q0 (fun cs hl h => el57 cs hl h)
  obtain ⟨x0_1, rfl, wx0_1⟩ := x0_q1.int_of
  have rx0_1 := wfi64 wx0_1
  obtain ⟨x0_s2, rfl⟩ := x0_q2.sl_of
  obtain ⟨x0_2, rfl, rx0_2⟩ := lift_list (f := e51) (R := R51) x0_q2 (fun cs hl h => el51 cs hl h)
  obtain ⟨x0_s3, rfl⟩ := x0_q3.sl_of
  obtain ⟨x0_3, rfl, rx0_3⟩ := lift_list (f := e42) (R := R42) x0_q3 (fun cs hl h => el42 cs hl h)
  obtain ⟨x0_4, rfl, wx0_4⟩ := x0_q4.int_of
  have rx0_4 := wfu64 wx0_4
  obtain ⟨tr1, hq1, hr1⟩ := arg_one (f := .int .i64) (fun _ => by rw [Try.underlying3]; simp) sh3 h1 (hval 1 3 v1 rfl (hget 1 _ rfl))
  obtain ⟨x1_0, rfl, wx1_0⟩ := hq1.int_of
  have rx1_0 := wfi64 wx1_0
  obtain ⟨tr2, hq2, hr2⟩ := arg_one (f := .int .u8) (fun _ => by rw [Try.underlying5]; simp) sh5 h2 (hval 2 5 v2 rfl (hget 2 _ rfl))
  obtain ⟨x2_0, rfl, wx2_0⟩ := hq2.int_of
  have rx2_0 := wfu8 wx2_0
  refine law_post rfl rfl rfl Try.underlying4 Try.laidOut (fun t ht => ?_) hW ?_
  · simp only [show Try.f4.params.toList = [27, 3, 5] from rfl, List.mem_cons, List.not_mem_nil, or_false] at ht
    rcases ht with rfl | rfl | rfl
    · exact ⟨by kernel_rfl, of_decide_eq_true (by kernel_rfl)⟩
    · exact ⟨by kernel_rfl, of_decide_eq_true (by kernel_rfl)⟩
    · exact ⟨by kernel_rfl, of_decide_eq_true (by kernel_rfl)⟩
  refine law_calls (law17_StealSome_calls _ _ _ _ _ _ _ _ (stealSome_pure x0_0 x0_1 x0_2 x0_3 x0_4 x1_0 x2_0 rx0_4 rx2_0)) ?_
  rw [hv0]
  exact repMs_3 hr0 hr1 hr2
theorem lifted (os : Os) (started : os.Started) (H : Type) (enc : TypeId × Value → H) :
    ReturnsInHanded {} Try.checked os 4 .any (Rows.stealSomeSpec.pre6 enc Try.prog Try.f4 Rows.stealSomeRow.domain false) (Rows.stealSomeSpec.post enc Try.prog Try.f4 false true false false) := by
  refine returnsInHanded_of_change (C := Try.checked) Try.own started (by kernel_rfl) Try.func4
    (ChangeSpec.witness6 (enc := enc) (C := Try.checked) false ⟨#[], #[.agg #[.slice none 0 0, .int .i64 0, .slice none 0 0, .slice none 0 0, .int .u64 0], .int .i64 0, .int .u8 0], []⟩ 8 (by kernel_rfl) (by kernel_rfl) (by kernel_rfl) (by kernel_rfl)) ?_
  intro W base args ds gs before hval hW _ _
  exact contract H enc W base args ds gs before hval hW
end stealSome
theorem stealSome_holds : Rows.StealSomeSaid :=
  OpenClaim.holds_of_wide 4 Try.f4 rfl rfl rfl rfl rfl rfl rfl ⟨rfl, rfl, rfl, rfl, rfl⟩ rfl rfl rfl rfl rfl (by kernel_rfl) Try.func4 (by kernel_rfl)
    (of_decide_eq_true (by kernel_rfl)) (by unfold Func.isWrapper; first | (rw [if_pos (by decide +kernel)]; kernel_rfl) | (rw [if_neg (by decide +kernel)]; exact ⟨rfl, rfl⟩))
    (fun os started H enc _ => stealSome.lifted os started H enc)
end Go.Proofs.Ytidgbllladaahaa
