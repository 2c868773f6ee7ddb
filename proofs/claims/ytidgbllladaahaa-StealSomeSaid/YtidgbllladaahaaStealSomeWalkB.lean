/- The walks of StealSome, part 2: each function of the code as a plain function, and that a call of it computes that. Written by a program of mine. -/
import Derived.Test.YtidgbllladaahaaStealSomeWalkA
set_option linter.all false
open Go Go.Proofs
namespace Go.PM
set_option maxRecDepth 20000
set_option maxHeartbeats 4000000
theorem find_Turn_calls (p0 : Int) (r : Bool) (h : find_Turn p0 = some r) : ACalls Try.prog 64 [.one (.t (.v (.int .i64 p0)))] [] (.one (.t (.v (.bool r)))) [] := by
  unfold find_Turn at h
  refine acalls_of_AW Try.func64 rfl Try.call64 (by decide) (show 1 ≤ 6 by decide) rfl rfl ?_
  refine aw_seq ?_
  refine aw_region (.cons (.plain rfl (c_assign rfl rfl (by decide) (.const rfl))) trivial rfl <| .nil) ?_
  show AW _ _ _ _ _
  refine aw_seq ?_
  refine aw_region (.cons (.plain rfl (c_move rfl rfl (by decide) .tmp)) ⟨rfl, trivial⟩ rfl <| .cons (.plain rfl (c_rem (by decide) rfl rfl (by decide) .tmp (.const rfl))) ⟨rfl, trivial⟩ rfl <| .cons (.plain rfl (c_eql rfl rfl (by decide) .tmp (.const rfl))) ⟨rfl, trivial⟩ rfl <| .cons (.plain rfl (c_assign rfl rfl (by decide) .tmp)) ⟨rfl, trivial⟩ rfl <| .nil) ?_
  show AW _ _ _ _ _
  refine aw_goes (σ' := [(.tmp 2, .m (.one (.t (.v (.bool (decide (p0.tmod 61 = 0)))))))]) (Goes.into [] ⟨rfl, rfl, .refl, trivial⟩) ?_
  refine aw_ret ?_
  obtain rfl := Option.some.inj h
  exact ⟨.inr rfl, _, [], (.tmp rfl .nil), rfl, rfl, rfl, ⟨rfl, rfl, trivial⟩⟩

def slices_Reverse_func_runs_Runs_int_int_L1 (v11 : ((List (F81)) × Int × Int)) : Option (((List (F81)) × Int × Int) ⊕ List (F81)) := bif decide (v11.2.1 < v11.2.2) then (at_ v11.1 v11.2.2).bind fun v13 => (at_ v11.1 v11.2.1).bind fun v14 => (at_ v11.1 v11.2.1).bind fun v15 => (at_ (set_ v11.1 v11.2.1 v13) v11.2.2).bind fun v16 => some (.inl ((set_ (set_ v11.1 v11.2.1 v13) v11.2.2 v14, wi64 (v11.2.1 + 1), wi64 (v11.2.2 - 1)))) else some (.inr v11.1)
def slices_Reverse_func_runs_Runs_int_int (p0 : List (F81)) : Option (List (F81)) := (loopO slices_Reverse_func_runs_Runs_int_int_L1 fuel ((p0, 0, wi64 ((p0.length : Int) - 1)))).bind fun v12 => some v12
theorem slices_Reverse_func_runs_Runs_int_int_row (p0 : List (F81)) (r : List (F81)) (h : slices_Reverse_func_runs_Runs_int_int p0 = some r) : ACalls Try.prog 65 [.one (.row 1000000)] [(.row 1000000, .r 81 1 (p0.map e81))] (.tup []) [(.row 1000000, .r 81 1 (r.map e81))] := by
  unfold slices_Reverse_func_runs_Runs_int_int at h
  refine acalls_of_AW Try.func65 rfl Try.call65 (by decide) (show 1 ≤ 28 by decide) rfl rfl ?_
  refine aw_seq ?_
  refine aw_region (.cons (.plain rfl (c_move rfl rfl (by decide) .tmp)) ⟨rfl, trivial⟩ rfl <| .cons (.plain rfl (k_len (i := Try.t81) (l := p0) (f := e81) (fun _ => rfl) (by decide) rfl rfl (by decide) Try.underlying82 (src_row (f := e81) .tmp))) ⟨rfl, rfl, trivial⟩ rfl <| .cons (.plain rfl (c_sub rfl rfl (by decide) .tmp (.const rfl))) ⟨rfl, trivial⟩ rfl <| .cons (.plain rfl (c_assign rfl rfl (by decide) (.const rfl))) trivial rfl <| .cons (.plain rfl (c_assign rfl rfl (by decide) .tmp)) ⟨rfl, trivial⟩ rfl <| .nil) ?_
  show AW _ _ _ _ _
  refine aw_loop0 (fun v11 : ((List (F81)) × Int × Int) => [(.tmp 0, .m (.one (.row 1000000))), (.tmp 2, .m (.one (.t (.v (.int .i64 v11.2.1))))), (.tmp 3, .m (.one (.t (.v (.int .i64 v11.2.2))))), (.row 1000000, .r 81 1 (v11.1.map e81))]) (fun v12 : List (F81) => [(.row 1000000, .r 81 1 (v12.map e81))]) h (Goes.into [(1000000, 1000000)] ⟨rfl, rfl, .refl, .refl, .refl, .refl, trivial⟩) (fun v11 _ h => ?_) (fun v12 h => ?_)
  · unfold slices_Reverse_func_runs_Runs_int_int_L1 at h
    refine aw_seq ?_
    refine aw_seq ?_
    refine aw_region (.cons (.plain rfl (c_move rfl rfl (by decide) .tmp)) ⟨rfl, trivial⟩ rfl <| .cons (.plain rfl (c_move rfl rfl (by decide) .tmp)) ⟨rfl, trivial⟩ rfl <| .cons (.plain rfl (c_lss rfl rfl (by decide) .tmp .tmp)) ⟨rfl, rfl, trivial⟩ rfl <| .nil) ?_
    show AW _ _ _ _ _
    refine aw_cond .tmp ⟨rfl, trivial⟩ (fun hc3 => ?_) (fun hc3 => ?_)
    · have h := of_true hc3 h
      refine aw_skip ?_
      show AW _ _ _ _ _
      refine aw_seq ?_
      refine aw_block ?_
      obtain ⟨v13, hv13, h⟩ := bind_some h
      obtain ⟨v14, hv14, h⟩ := bind_some h
      obtain ⟨v15, hv15, h⟩ := bind_some h
      obtain ⟨v16, hv16, h⟩ := bind_some h
      refine aw_region_draw mixed (.cons (.plain rfl (c_move rfl rfl (by decide) .tmp)) ⟨rfl, trivial⟩ rfl <| .cons (.plain rfl (c_move rfl rfl (by decide) .tmp)) ⟨rfl, trivial⟩ rfl <| .cons (.plain rfl (c_move rfl rfl (by decide) .tmp)) ⟨rfl, trivial⟩ rfl <| .cons (.plain rfl (c_move rfl rfl (by decide) .tmp)) ⟨rfl, trivial⟩ rfl <| .cons (.plain rfl (c_move rfl rfl (by decide) .tmp)) ⟨rfl, trivial⟩ rfl <| .cons (.plain rfl (c_move rfl rfl (by decide) .tmp)) ⟨rfl, trivial⟩ rfl <| .cons (.plain rfl (k_indexRow (f := e81) (i := Try.t81) hv13 rfl rfl rfl (by decide) Try.underlying82 i81 .tmp .tmp)) ⟨rfl, rfl, rfl, trivial⟩ rfl <| .cons (.plain rfl (c_loadRow rfl rfl (by decide) Try.isAgg81 .tmp (at_get (f := e81) hv13) rfl)) ⟨rfl, rfl, trivial⟩ rfl <| .cons (.plain rfl (c_move rfl rfl (by decide) .tmp)) ⟨rfl, trivial⟩ rfl <| .cons (.plain rfl (c_move rfl rfl (by decide) .tmp)) ⟨rfl, trivial⟩ rfl <| .cons (.plain rfl (k_indexRow (f := e81) (i := Try.t81) hv14 rfl rfl rfl (by decide) Try.underlying82 i81 .tmp .tmp)) ⟨rfl, rfl, rfl, trivial⟩ rfl <| .cons (.plain rfl (c_loadRow rfl rfl (by decide) Try.isAgg81 .tmp (at_get (f := e81) hv14) rfl)) ⟨rfl, rfl, trivial⟩ rfl <| .cons (.plain rfl (k_indexRow (f := e81) (i := Try.t81) hv15 rfl rfl rfl (by decide) Try.underlying82 i81 .tmp .tmp)) ⟨rfl, rfl, rfl, trivial⟩ rfl <| .cons (.plain rfl (k_setRow1 (f := e81) (new := v13) hv15 (show 0 < 1 by decide) rfl rfl rfl i81 rfl .tmp .tmp)) ⟨rfl, rfl, rfl, trivial⟩ rfl <| .cons (.plain rfl (k_indexRow (f := e81) (i := Try.t81) hv16 rfl rfl rfl (by decide) Try.underlying82 i81 .tmp .tmp)) ⟨rfl, rfl, rfl, trivial⟩ rfl <| .cons (.plain rfl (k_setRow1 (f := e81) (new := v14) hv16 (show 0 < 1 by decide) rfl rfl rfl i81 rfl .tmp .tmp)) ⟨rfl, rfl, rfl, trivial⟩ rfl <| .nil) rfl rfl ?_
      show AW _ _ _ _ _
      refine aw_region (.cons (.plain rfl (c_move rfl rfl (by decide) .tmp)) ⟨rfl, trivial⟩ rfl <| .cons (.plain rfl (c_add rfl rfl (by decide) .tmp (.const rfl))) ⟨rfl, trivial⟩ rfl <| .cons (.plain rfl (c_move rfl rfl (by decide) .tmp)) ⟨rfl, trivial⟩ rfl <| .cons (.plain rfl (c_sub rfl rfl (by decide) .tmp (.const rfl))) ⟨rfl, trivial⟩ rfl <| .cons (.plain rfl (c_assign rfl rfl (by decide) .tmp)) ⟨rfl, trivial⟩ rfl <| .cons (.plain rfl (c_assign rfl rfl (by decide) .tmp)) ⟨rfl, trivial⟩ rfl <| .nil) ?_
      obtain rfl := Option.some.inj h
      exact ⟨_, rfl, (Goes.into [(1000000, 1000000)] ⟨rfl, rfl, .refl, .refl, .refl, .refl, trivial⟩)⟩
    · have h := of_false hc3 h
      refine aw_exit ?_
      obtain rfl := Option.some.inj h
      exact ⟨rfl, _, rfl, (Goes.into [(1000000, 1000000)] ⟨rfl, rfl, .refl, trivial⟩)⟩
  · obtain rfl := Option.some.inj h
    exact ⟨.inl rfl, _, [(1000000, 1000000)], .nil, rfl, rfl, rfl, ⟨rfl, rfl, .refl, trivial⟩⟩

def find_Local_L1 (v11 : List (F81)) (v18 : Int) : Option (Int ⊕ (Unit ⊕ ((List (Int × Int)) × Int × (List (Int × (List (Int)))) × (List ((List (Int)))) × Int × Int × Int))) := bif decide (v18 < (v11.length : Int)) then (at_ v11 v18).bind fun v20 => (v20.run).bind fun v21 => bif !decide (v21.2.2.2.2.2.1 = 0) then some (.inr (.inr ((v21.1, v21.2.1, v21.2.2.1, v21.2.2.2.1, v21.2.2.2.2.1, v21.2.2.2.2.2.1, v21.2.2.2.2.2.2)))) else some (.inl (wi64 (v18 + 1))) else some (.inr (.inl (())))
def find_Local (p0_0 : List (Int × Int)) (p0_1 : Int) (p0_2 : List (Int × (List (Int)))) (p0_3 : List ((List (Int)))) (p0_4 : Int) (p1 : Int) (p2 : Int) : Option (((List (Int × Int)) × Int × (List (Int × (List (Int)))) × (List ((List (Int)))) × Int × Int × Int)) := ((runs_May p0_0 p0_1 p0_2 p0_3 p0_4).bind fun v3 => bif !v3 then some true else (bits_Set_Has p0_4 p1).bind fun v4 => some (!v4) : Option Bool).bind fun v5 => bif v5 then some ((p0_0, p0_1, p0_2, p0_3, p0_4, 0, 0)) else (dist_Node p0_0 p1).bind fun v6 => ((find_Turn p2).bind fun v9 => bif v9 then (slices_Reverse_func_runs_Runs_int_int ([(⟨60, [[.sl (p0_0.map e57), .v (.int .i64 p0_1), .sl (p0_2.map e51), .sl (p0_3.map e42), .v (.int .u64 p0_4)], [.v (.int .i64 p1)]], (find_Local_1 p0_0 p0_1 p0_2 p0_3 p0_4 p1), fun r h => find_Local_1_calls _ _ _ _ _ _ r h⟩ : F81), (⟨62, [[.sl (p0_0.map e57), .v (.int .i64 p0_1), .sl (p0_2.map e51), .sl (p0_3.map e42), .v (.int .u64 p0_4)], [.v (.int .i64 v6)]], (find_Local_2 p0_0 p0_1 p0_2 p0_3 p0_4 v6), fun r h => find_Local_2_calls _ _ _ _ _ _ r h⟩ : F81)])).bind fun v10 => some v10 else some ([(⟨60, [[.sl (p0_0.map e57), .v (.int .i64 p0_1), .sl (p0_2.map e51), .sl (p0_3.map e42), .v (.int .u64 p0_4)], [.v (.int .i64 p1)]], (find_Local_1 p0_0 p0_1 p0_2 p0_3 p0_4 p1), fun r h => find_Local_1_calls _ _ _ _ _ _ r h⟩ : F81), (⟨62, [[.sl (p0_0.map e57), .v (.int .i64 p0_1), .sl (p0_2.map e51), .sl (p0_3.map e42), .v (.int .u64 p0_4)], [.v (.int .i64 v6)]], (find_Local_2 p0_0 p0_1 p0_2 p0_3 p0_4 v6), fun r h => find_Local_2_calls _ _ _ _ _ _ r h⟩ : F81)]) : Option (List (F81))).bind fun v11 => (loopO (find_Local_L1 v11) fuel 0).bind fun s => s.elim (fun v19 => some ((p0_0, p0_1, p0_2, p0_3, p0_4, 0, 0))) (fun j : ((List (Int × Int)) × Int × (List (Int × (List (Int)))) × (List ((List (Int)))) × Int × Int × Int) => some j)
theorem find_Local_calls (p0_0 : List (Int × Int)) (p0_1 : Int) (p0_2 : List (Int × (List (Int)))) (p0_3 : List ((List (Int)))) (p0_4 : Int) (p1 : Int) (p2 : Int) (r : ((List (Int × Int)) × Int × (List (Int × (List (Int)))) × (List ((List (Int)))) × Int × Int × Int)) (h : find_Local p0_0 p0_1 p0_2 p0_3 p0_4 p1 p2 = some r) : ACalls Try.prog 28 [.agg [.t (.sl (p0_0.map e57)), .t (.v (.int .i64 p0_1)), .t (.sl (p0_2.map e51)), .t (.sl (p0_3.map e42)), .t (.v (.int .u64 p0_4))], .one (.t (.v (.int .i64 p1))), .one (.t (.v (.int .i64 p2)))] [] (.tup [(true, [.t (.sl (r.1.map e57)), .t (.v (.int .i64 r.2.1)), .t (.sl (r.2.2.1.map e51)), .t (.sl (r.2.2.2.1.map e42)), .t (.v (.int .u64 r.2.2.2.2.1))]), (false, [.t (.v (.int .i64 r.2.2.2.2.2.1))]), (false, [.t (.v (.int .i64 r.2.2.2.2.2.2))])]) [] := by
  unfold find_Local at h
  refine acalls_of_AW Try.func28 rfl Try.call28 (by decide) (show 3 ≤ 57 by decide) rfl rfl ?_
  refine aw_seq ?_
  refine aw_region (.cons (.plain rfl (k_boxN rfl rfl (by decide) .tmp rfl)) ⟨rfl, trivial⟩ rfl <| .cons (.plain rfl (k_box1 rfl rfl (by decide) .tmp rfl)) ⟨rfl, trivial⟩ rfl <| .cons (.plain rfl (c_alloc rfl rfl (by decide) i33 rfl rfl rfl)) trivial rfl <| .cons (.plain rfl (c_assign rfl rfl (by decide) (.const rfl))) trivial rfl <| .cons (.plain rfl (c_assign rfl rfl (by decide) (.const rfl))) trivial rfl <| .nil) ?_
  show AW _ _ _ _ _
  refine aw_seq ?_
  refine aw_seq ?_
  refine aw_cut0 (fun v5 : Bool => [(.tmp 2, .m (.one (.t (.v (.int .i64 p2))))), (.tmp 3, .m (.one (.ptr 3 0))), (.tmp 4, .m (.one (.ptr 4 0))), (.tmp 6, .m (.one (.ptr 6 0))), (.tmp 25, .m (.one (.t (.v (.bool v5))))), (.cell 3 0, .c (.t (.sl (p0_0.map e57)))), (.cell 3 1, .c (.t (.v (.int .i64 p0_1)))), (.cell 3 2, .c (.t (.sl (p0_2.map e51)))), (.cell 3 3, .c (.t (.sl (p0_3.map e42)))), (.cell 3 4, .c (.t (.v (.int .u64 p0_4)))), (.cell 4 0, .c (.t (.v (.int .i64 p1)))), (.cell 6 0, .c (.t (.v (.slice none 0 0)))), (.cell 6 1, .c (.t (.v (.int .i64 0)))), (.cell 6 2, .c (.t (.v (.slice none 0 0)))), (.cell 6 3, .c (.t (.v (.slice none 0 0)))), (.cell 6 4, .c (.t (.v (.int .u64 0))))]) h (fun _ h => ?_) (fun v5 h => ?_)
  · obtain ⟨v3, hv3, h⟩ := bind_some h
    cases hc2 : !v3 with
    | true =>
      have h := of_true hc2 h
      refine aw_region (.cons (.plain rfl (c_loadBox (cs := [.t (.sl (p0_0.map e57)), .t (.v (.int .i64 p0_1)), .t (.sl (p0_2.map e51)), .t (.sl (p0_3.map e42)), .t (.v (.int .u64 p0_4))]) rfl rfl (by decide) Try.isAgg33 i33 rfl .tmp)) ⟨rfl, rfl, rfl, rfl, rfl, rfl, trivial⟩ rfl <| .cons (.plain rfl (c_call (ins := [.agg [.t (.sl (p0_0.map e57)), .t (.v (.int .i64 p0_1)), .t (.sl (p0_2.map e51)), .t (.sl (p0_3.map e42)), .t (.v (.int .u64 p0_4))]]) (caps := []) rfl rfl rfl (by decide) .clo (runs_May_calls _ _ _ _ _ _ hv3) (.cons .tmp .nil) rfl rfl)) ⟨rfl, trivial⟩ rfl <| .cons (.plain rfl (c_not rfl rfl (by decide) .tmp)) ⟨rfl, trivial⟩ rfl <| .cons (.plain rfl (c_move rfl rfl (by decide) .tmp)) ⟨rfl, trivial⟩ rfl <| .cons (.off (b' := true) rfl rfl rfl rfl (by decide)) ⟨(congrArg mB hc2), trivial⟩ rfl <| .cons (.off (b' := true) rfl rfl rfl rfl (by decide)) ⟨(congrArg mB hc2), trivial⟩ rfl <| .cons (.off (b' := true) rfl rfl rfl rfl (by decide)) ⟨(congrArg mB hc2), trivial⟩ rfl <| .cons (.off (b' := true) rfl rfl rfl rfl (by decide)) ⟨(congrArg mB hc2), trivial⟩ rfl <| .cons (.off (b' := true) rfl rfl rfl rfl (by decide)) ⟨(congrArg mB hc2), trivial⟩ rfl <| .cons (.plain rfl (c_pick (b := true) rfl rfl (by decide) .tmp rfl (.const rfl))) ⟨(congrArg mB hc2), trivial⟩ rfl <| .nil) ?_
      obtain rfl := Option.some.inj h
      show Goes _ _
      exact (Goes.into [(3, 3), (4, 4), (6, 6)] ⟨rfl, rfl, .refl, .refl, .refl, .refl, .refl, .refl, .refl, .refl, .refl, .refl, .refl, .refl, .refl, .refl, .refl, .refl, trivial⟩)
    | false =>
      have h := of_false hc2 h
      obtain ⟨v4, hv4, h⟩ := bind_some h
      refine aw_region (.cons (.plain rfl (c_loadBox (cs := [.t (.sl (p0_0.map e57)), .t (.v (.int .i64 p0_1)), .t (.sl (p0_2.map e51)), .t (.sl (p0_3.map e42)), .t (.v (.int .u64 p0_4))]) rfl rfl (by decide) Try.isAgg33 i33 rfl .tmp)) ⟨rfl, rfl, rfl, rfl, rfl, rfl, trivial⟩ rfl <| .cons (.plain rfl (c_call (ins := [.agg [.t (.sl (p0_0.map e57)), .t (.v (.int .i64 p0_1)), .t (.sl (p0_2.map e51)), .t (.sl (p0_3.map e42)), .t (.v (.int .u64 p0_4))]]) (caps := []) rfl rfl rfl (by decide) .clo (runs_May_calls _ _ _ _ _ _ hv3) (.cons .tmp .nil) rfl rfl)) ⟨rfl, trivial⟩ rfl <| .cons (.plain rfl (c_not rfl rfl (by decide) .tmp)) ⟨rfl, trivial⟩ rfl <| .cons (.plain rfl (c_move rfl rfl (by decide) .tmp)) ⟨rfl, trivial⟩ rfl <| .cons (.on (t := 19) rfl rfl (k_fieldP 31 4 rfl rfl (by decide) Try.underlying33 rfl i31 (by decide) .tmp)) ⟨(congrArg mB hc2), rfl, trivial⟩ rfl <| .cons (.on (t := 19) rfl rfl (c_loadCell rfl rfl (by decide) Try.isAgg31 .tmp)) ⟨(congrArg mB hc2), rfl, rfl, trivial⟩ rfl <| .cons (.on (t := 19) rfl rfl (c_loadCell rfl rfl (by decide) Try.isAgg3 .tmp)) ⟨(congrArg mB hc2), rfl, rfl, trivial⟩ rfl <| .cons (.on (t := 19) rfl rfl (c_call (ins := [.one (.t (.v (.int .u64 p0_4))), .one (.t (.v (.int .i64 p1)))]) (caps := []) rfl rfl rfl (by decide) .clo (bits_Set_Has_calls _ _ _ hv4) (.cons .tmp (.cons .tmp .nil)) rfl rfl)) ⟨(congrArg mB hc2), rfl, rfl, trivial⟩ rfl <| .cons (.on (t := 19) rfl rfl (c_not rfl rfl (by decide) .tmp)) ⟨(congrArg mB hc2), rfl, trivial⟩ rfl <| .cons (.plain rfl (c_pick (b := false) rfl rfl (by decide) .tmp rfl .tmp)) ⟨(congrArg mB hc2), rfl, trivial⟩ rfl <| .nil) ?_
      obtain rfl := Option.some.inj h
      show Goes _ _
      exact (Goes.into [(3, 3), (4, 4), (6, 6)] ⟨rfl, rfl, .refl, .refl, .refl, .refl, .refl, .refl, .refl, .refl, .refl, .refl, .refl, .refl, .refl, .refl, .refl, .refl, trivial⟩)
  · show AW _ _ _ _ _
    refine aw_cond .tmp ⟨rfl, trivial⟩ (fun hc3 => ?_) (fun hc3 => ?_)
    · have h := of_true hc3 h
      refine aw_seq ?_
      refine aw_region (.cons (.plain rfl (c_loadBox (cs := [.t (.sl (p0_0.map e57)), .t (.v (.int .i64 p0_1)), .t (.sl (p0_2.map e51)), .t (.sl (p0_3.map e42)), .t (.v (.int .u64 p0_4))]) rfl rfl (by decide) Try.isAgg33 i33 rfl .tmp)) ⟨rfl, rfl, rfl, rfl, rfl, rfl, trivial⟩ rfl <| .cons (.plain rfl (c_storeBox (cs0 := [.t (.v (.slice none 0 0)), .t (.v (.int .i64 0)), .t (.v (.slice none 0 0)), .t (.v (.slice none 0 0)), .t (.v (.int .u64 0))]) (cs := [.t (.sl (p0_0.map e57)), .t (.v (.int .i64 p0_1)), .t (.sl (p0_2.map e51)), .t (.sl (p0_3.map e42)), .t (.v (.int .u64 p0_4))]) rfl rfl i33 rfl rfl .tmp .tmp)) ⟨rfl, rfl, rfl, rfl, rfl, rfl, rfl, trivial⟩ rfl <| .cons (.plain rfl (c_assign rfl rfl (by decide) (.const rfl))) trivial rfl <| .cons (.plain rfl (c_assign rfl rfl (by decide) (.const rfl))) trivial rfl <| .nil) ?_
      show AW _ _ _ _ _
      refine aw_goes (σ' := [(.tmp 6, .m (.one (.ptr 6 0))), (.tmp 7, .m (.one (.t (.v (.int .i64 0))))), (.tmp 8, .m (.one (.t (.v (.int .i64 0))))), (.cell 6 0, .c (.t (.sl (p0_0.map e57)))), (.cell 6 1, .c (.t (.v (.int .i64 p0_1)))), (.cell 6 2, .c (.t (.sl (p0_2.map e51)))), (.cell 6 3, .c (.t (.sl (p0_3.map e42)))), (.cell 6 4, .c (.t (.v (.int .u64 p0_4))))]) (Goes.into [(6, 6)] ⟨rfl, rfl, .refl, .refl, .refl, .refl, .refl, .refl, .refl, .refl, trivial⟩) ?_
      refine aw_ret ?_
      obtain rfl := Option.some.inj h
      exact ⟨.inr rfl, _, [], (.cellAgg (cs := [.t (.sl (p0_0.map e57)), .t (.v (.int .i64 p0_1)), .t (.sl (p0_2.map e51)), .t (.sl (p0_3.map e42)), .t (.v (.int .u64 p0_4))]) rfl Try.isAgg33 i33 rfl ⟨rfl, rfl, rfl, rfl, rfl, trivial⟩ (.tmp rfl (.tmp rfl .nil))), rfl, rfl, rfl, ⟨rfl, rfl, trivial⟩⟩
    · have h := of_false hc3 h
      refine aw_skip ?_
      show AW _ _ _ _ _
      refine aw_seq ?_
      obtain ⟨v6, hv6, h⟩ := bind_some h
      refine aw_region (.cons (.plain rfl (k_fieldP 22 0 rfl rfl (by decide) Try.underlying33 rfl i22 (by decide) .tmp)) ⟨rfl, trivial⟩ rfl <| .cons (.plain rfl (c_loadCell rfl rfl (by decide) Try.isAgg22 .tmp)) ⟨rfl, rfl, trivial⟩ rfl <| .cons (.plain rfl (c_loadCell rfl rfl (by decide) Try.isAgg3 .tmp)) ⟨rfl, rfl, trivial⟩ rfl <| .cons (.plain rfl (c_call (ins := [.one (.t (.sl (p0_0.map e57))), .one (.t (.v (.int .i64 p1)))]) (caps := []) rfl rfl rfl (by decide) .clo (dist_Node_calls _ _ _ hv6) (.cons .tmp (.cons .tmp .nil)) rfl rfl)) ⟨rfl, rfl, trivial⟩ rfl <| .cons (.plain rfl (c_alloc rfl rfl (by decide) i3 rfl rfl rfl)) trivial rfl <| .cons (.plain rfl (c_store rfl rfl i3 rfl .tmp .tmp)) ⟨rfl, rfl, rfl, trivial⟩ rfl <| .nil) ?_
      show AW _ _ _ _ _
      refine aw_seq ?_
      refine aw_goes (Goes.freezeBox (n := 3) (cs := [.sl (p0_0.map e57), .v (.int .i64 p0_1), .sl (p0_2.map e51), .sl (p0_3.map e42), .v (.int .u64 p0_4)]) ⟨rfl, rfl, rfl, rfl, rfl, trivial⟩) ?_
      refine aw_goes (Goes.freezeBox (n := 4) (cs := [.v (.int .i64 p1)]) ⟨rfl, trivial⟩) ?_
      refine aw_goes (Goes.freezeBox (n := 9) (cs := [.v (.int .i64 v6)]) ⟨rfl, trivial⟩) ?_
      refine aw_region (.cons (.plain rfl (c_makeClo rfl rfl (by decide) (.cons .tmp (.cons .tmp .nil)))) ⟨rfl, rfl, trivial⟩ rfl <| .cons (.plain rfl (c_makeClo rfl rfl (by decide) (.cons .tmp (.cons .tmp .nil)))) ⟨rfl, rfl, trivial⟩ rfl <| .cons (.plain rfl (c_buildSlice (sz := 1) (es := ([(⟨60, [[.sl (p0_0.map e57), .v (.int .i64 p0_1), .sl (p0_2.map e51), .sl (p0_3.map e42), .v (.int .u64 p0_4)], [.v (.int .i64 p1)]], (find_Local_1 p0_0 p0_1 p0_2 p0_3 p0_4 p1), fun r h => find_Local_1_calls _ _ _ _ _ _ r h⟩ : F81), (⟨62, [[.sl (p0_0.map e57), .v (.int .i64 p0_1), .sl (p0_2.map e51), .sl (p0_3.map e42), .v (.int .u64 p0_4)], [.v (.int .i64 v6)]], (find_Local_2 p0_0 p0_1 p0_2 p0_3 p0_4 v6), fun r h => find_Local_2_calls _ _ _ _ _ _ r h⟩ : F81)]).map e81) rfl rfl (by decide) Try.underlying82 i81 rfl rfl rfl rfl (by decide) (.c1 .tmp (.c1 .tmp .nil)) rfl (emb_len (f := e81) (n := 1) (fun _ => rfl) _) (by decide))) ⟨rfl, rfl, trivial⟩ rfl <| .cons (.plain rfl (c_assign rfl rfl (by decide) .tmp)) ⟨rfl, trivial⟩ rfl <| .nil) ?_
      show AW _ _ _ _ _
      refine aw_seq ?_
      refine aw_cut0 (fun v11 : List (F81) => [(.tmp 3, .m (.one (.tptr [.sl (p0_0.map e57), .v (.int .i64 p0_1), .sl (p0_2.map e51), .sl (p0_3.map e42), .v (.int .u64 p0_4)] 0))), (.tmp 6, .m (.one (.ptr 6 0))), (.tmp 10, .m (.one (.row 500001))), (.cell 6 0, .c (.t (.v (.slice none 0 0)))), (.cell 6 1, .c (.t (.v (.int .i64 0)))), (.cell 6 2, .c (.t (.v (.slice none 0 0)))), (.cell 6 3, .c (.t (.v (.slice none 0 0)))), (.cell 6 4, .c (.t (.v (.int .u64 0)))), (.row 500001, .r 81 1 (v11.map e81))]) h (fun _ h => ?_) (fun v11 h => ?_)
      · refine aw_seq ?_
        obtain ⟨v9, hv9, h⟩ := bind_some h
        refine aw_region (.cons (.plain rfl (c_move rfl rfl (by decide) .tmp)) ⟨rfl, trivial⟩ rfl <| .cons (.plain rfl (c_call (ins := [.one (.t (.v (.int .i64 p2)))]) (caps := []) rfl rfl rfl (by decide) .clo (find_Turn_calls _ _ hv9) (.cons .tmp .nil) rfl rfl)) ⟨rfl, trivial⟩ rfl <| .nil) ?_
        show AW _ _ _ _ _
        refine aw_cond .tmp ⟨rfl, trivial⟩ (fun hc5 => ?_) (fun hc5 => ?_)
        · have h := of_true hc5 h
          obtain ⟨v10, hv10, h⟩ := bind_some h
          refine aw_region (.cons (.plain rfl (c_move rfl rfl (by decide) .tmp)) ⟨rfl, trivial⟩ rfl <| .cons (.plain rfl (c_callObj (ins := [.one (.row 1000000)]) (ins' := [.one (.row 33)]) (caps := []) (pre := [(.row 1000000, .r 81 1 (([(⟨60, [[.sl (p0_0.map e57), .v (.int .i64 p0_1), .sl (p0_2.map e51), .sl (p0_3.map e42), .v (.int .u64 p0_4)], [.v (.int .i64 p1)]], (find_Local_1 p0_0 p0_1 p0_2 p0_3 p0_4 p1), fun r h => find_Local_1_calls _ _ _ _ _ _ r h⟩ : F81), (⟨62, [[.sl (p0_0.map e57), .v (.int .i64 p0_1), .sl (p0_2.map e51), .sl (p0_3.map e42), .v (.int .u64 p0_4)], [.v (.int .i64 v6)]], (find_Local_2 p0_0 p0_1 p0_2 p0_3 p0_4 v6), fun r h => find_Local_2_calls _ _ _ _ _ _ r h⟩ : F81)]).map e81))]) (pre' := [(.row 33, .r 81 1 (([(⟨60, [[.sl (p0_0.map e57), .v (.int .i64 p0_1), .sl (p0_2.map e51), .sl (p0_3.map e42), .v (.int .u64 p0_4)], [.v (.int .i64 p1)]], (find_Local_1 p0_0 p0_1 p0_2 p0_3 p0_4 p1), fun r h => find_Local_1_calls _ _ _ _ _ _ r h⟩ : F81), (⟨62, [[.sl (p0_0.map e57), .v (.int .i64 p0_1), .sl (p0_2.map e51), .sl (p0_3.map e42), .v (.int .u64 p0_4)], [.v (.int .i64 v6)]], (find_Local_2 p0_0 p0_1 p0_2 p0_3 p0_4 v6), fun r h => find_Local_2_calls _ _ _ _ _ _ r h⟩ : F81)]).map e81))]) (post := [(.row 1000000, .r 81 1 (v10.map e81))]) (post' := [(.row 33, .r 81 1 (v10.map e81))]) (kl := []) (ps := [(1000000, 33)]) (qs := [(33, 1000000)]) (nw := []) (out' := .tup []) rfl rfl rfl (by decide) .clo (slices_Reverse_func_runs_Runs_int_int_row _ _ hv10) (.cons .tmp .nil) rfl rfl rfl rfl ⟨.refl, trivial⟩ rfl rfl rfl rfl rfl ⟨.refl, trivial⟩ rfl rfl rfl)) ⟨rfl, rfl, trivial⟩ rfl <| .nil) ?_
          obtain rfl := Option.some.inj h
          show Goes _ _
          exact (Goes.into [(6, 6), (500001, 33)] ⟨rfl, rfl, .refl, .refl, .refl, .refl, .refl, .refl, .refl, .refl, .refl, trivial⟩)
        · have h := of_false hc5 h
          refine aw_skip ?_
          obtain rfl := Option.some.inj h
          show Goes _ _
          exact (Goes.into [(6, 6), (500001, 33)] ⟨rfl, rfl, .refl, .refl, .refl, .refl, .refl, .refl, .refl, .refl, .refl, trivial⟩)
      · show AW _ _ _ _ _
        refine aw_seq ?_
        refine aw_seq ?_
        refine aw_region (.cons (.plain rfl (c_move rfl rfl (by decide) .tmp)) ⟨rfl, trivial⟩ rfl <| .cons (.plain rfl (k_len (i := Try.t81) (l := v11) (f := e81) (fun _ => rfl) (by decide) rfl rfl (by decide) Try.underlying82 (src_row (f := e81) .tmp))) ⟨rfl, rfl, trivial⟩ rfl <| .cons (.plain rfl (c_move rfl rfl (by decide) (.const rfl))) trivial rfl <| .nil) ?_
        show AW _ _ _ _ _
        refine aw_loopJ (fun v18 : Int => [(.tmp 3, .m (.one (.tptr [.sl (p0_0.map e57), .v (.int .i64 p0_1), .sl (p0_2.map e51), .sl (p0_3.map e42), .v (.int .u64 p0_4)] 0))), (.tmp 6, .m (.one (.ptr 6 0))), (.tmp 38, .m (.one (.row 500004))), (.tmp 39, .m (.one (.t (.v (.int .i64 ((v11.length : Int))))))), (.tmp 40, .m (.one (.t (.v (.int .i64 v18))))), (.cell 6 0, .c (.t (.v (.slice none 0 0)))), (.cell 6 1, .c (.t (.v (.int .i64 0)))), (.cell 6 2, .c (.t (.v (.slice none 0 0)))), (.cell 6 3, .c (.t (.v (.slice none 0 0)))), (.cell 6 4, .c (.t (.v (.int .u64 0)))), (.row 500004, .r 81 1 (v11.map e81))]) (fun v19 : Unit => [(.tmp 3, .m (.one (.tptr [.sl (p0_0.map e57), .v (.int .i64 p0_1), .sl (p0_2.map e51), .sl (p0_3.map e42), .v (.int .u64 p0_4)] 0))), (.tmp 6, .m (.one (.ptr 6 0))), (.cell 6 0, .c (.t (.v (.slice none 0 0)))), (.cell 6 1, .c (.t (.v (.int .i64 0)))), (.cell 6 2, .c (.t (.v (.slice none 0 0)))), (.cell 6 3, .c (.t (.v (.slice none 0 0)))), (.cell 6 4, .c (.t (.v (.int .u64 0))))]) h (Goes.into [(6, 6), (500004, 500001)] ⟨rfl, rfl, .refl, .refl, .refl, .refl, .refl, .refl, .refl, .refl, .refl, .refl, .refl, trivial⟩) (fun v18 _ h => ?_) (fun v19 h => ?_)
        · unfold find_Local_L1 at h
          refine aw_seq ?_
          refine aw_region (.cons (.plain rfl (c_lss rfl rfl (by decide) .tmp .tmp)) ⟨rfl, rfl, trivial⟩ rfl <| .nil) ?_
          show AW _ _ _ _ _
          refine aw_seq ?_
          refine aw_cond .tmp ⟨rfl, trivial⟩ (fun hc10 => ?_) (fun hc10 => ?_)
          · have h := of_true hc10 h
            refine aw_skip ?_
            show AW _ _ _ _ _
            refine aw_seq ?_
            refine aw_block ?_
            refine aw_seq ?_
            obtain ⟨v20, hv20, h⟩ := bind_some h
            refine aw_region (.cons (.plain rfl (k_indexRow (f := e81) (i := Try.t81) hv20 rfl rfl rfl (by decide) Try.underlying82 i81 .tmp .tmp)) ⟨rfl, rfl, rfl, trivial⟩ rfl <| .cons (.plain rfl (c_loadRow rfl rfl (by decide) Try.isAgg81 .tmp (at_get (f := e81) hv20) rfl)) ⟨rfl, rfl, trivial⟩ rfl <| .cons (.plain rfl (c_assign rfl rfl (by decide) .tmp)) ⟨rfl, trivial⟩ rfl <| .nil) ?_
            show AW _ _ _ _ _
            refine aw_seq ?_
            obtain ⟨v21, hv21, h⟩ := bind_some h
            refine aw_region (.cons (.plain rfl (c_move rfl rfl (by decide) .tmp)) ⟨rfl, trivial⟩ rfl <| .cons (.plain rfl (c_call (ins := []) (caps := v20.caps) rfl rfl rfl (by decide) .tmp (v20.ok  _ hv21) .nil rfl rfl)) ⟨rfl, trivial⟩ rfl <| .cons (.plain rfl (c_move rfl rfl (by decide) .tmp)) ⟨rfl, trivial⟩ rfl <| .cons (.plain rfl (c_extract rfl rfl (by decide) .tmp rfl rfl)) ⟨rfl, trivial⟩ rfl <| .cons (.plain rfl (c_extract rfl rfl (by decide) .tmp rfl rfl)) ⟨rfl, trivial⟩ rfl <| .cons (.plain rfl (c_extract rfl rfl (by decide) .tmp rfl rfl)) ⟨rfl, trivial⟩ rfl <| .cons (.plain rfl (c_alloc rfl rfl (by decide) i33 rfl rfl rfl)) trivial rfl <| .cons (.plain rfl (c_storeBox (cs0 := [.t (.v (.slice none 0 0)), .t (.v (.int .i64 0)), .t (.v (.slice none 0 0)), .t (.v (.slice none 0 0)), .t (.v (.int .u64 0))]) (cs := [.t (.sl (v21.1.map e57)), .t (.v (.int .i64 v21.2.1)), .t (.sl (v21.2.2.1.map e51)), .t (.sl (v21.2.2.2.1.map e42)), .t (.v (.int .u64 v21.2.2.2.2.1))]) rfl rfl i33 rfl rfl .tmp .tmp)) ⟨rfl, rfl, rfl, rfl, rfl, rfl, rfl, trivial⟩ rfl <| .cons (.plain rfl (c_assign rfl rfl (by decide) .tmp)) ⟨rfl, trivial⟩ rfl <| .cons (.plain rfl (c_assign rfl rfl (by decide) .tmp)) ⟨rfl, trivial⟩ rfl <| .nil) ?_
            show AW _ _ _ _ _
            refine aw_seq ?_
            refine aw_region (.cons (.plain rfl (c_move rfl rfl (by decide) .tmp)) ⟨rfl, trivial⟩ rfl <| .cons (.plain rfl (c_neq rfl rfl (by decide) .tmp (.const rfl))) ⟨rfl, trivial⟩ rfl <| .nil) ?_
            show AW _ _ _ _ _
            refine aw_cond .tmp ⟨rfl, trivial⟩ (fun hc11 => ?_) (fun hc11 => ?_)
            · have h := of_true hc11 h
              refine aw_seq ?_
              refine aw_region (.cons (.plain rfl (c_loadBox (cs := [.t (.sl (v21.1.map e57)), .t (.v (.int .i64 v21.2.1)), .t (.sl (v21.2.2.1.map e51)), .t (.sl (v21.2.2.2.1.map e42)), .t (.v (.int .u64 v21.2.2.2.2.1))]) rfl rfl (by decide) Try.isAgg33 i33 rfl .tmp)) ⟨rfl, rfl, rfl, rfl, rfl, rfl, trivial⟩ rfl <| .cons (.plain rfl (c_move rfl rfl (by decide) .tmp)) ⟨rfl, trivial⟩ rfl <| .cons (.plain rfl (c_move rfl rfl (by decide) .tmp)) ⟨rfl, trivial⟩ rfl <| .cons (.plain rfl (c_storeBox (cs0 := [.t (.v (.slice none 0 0)), .t (.v (.int .i64 0)), .t (.v (.slice none 0 0)), .t (.v (.slice none 0 0)), .t (.v (.int .u64 0))]) (cs := [.t (.sl (v21.1.map e57)), .t (.v (.int .i64 v21.2.1)), .t (.sl (v21.2.2.1.map e51)), .t (.sl (v21.2.2.2.1.map e42)), .t (.v (.int .u64 v21.2.2.2.2.1))]) rfl rfl i33 rfl rfl .tmp .tmp)) ⟨rfl, rfl, rfl, rfl, rfl, rfl, rfl, trivial⟩ rfl <| .cons (.plain rfl (c_assign rfl rfl (by decide) .tmp)) ⟨rfl, trivial⟩ rfl <| .cons (.plain rfl (c_assign rfl rfl (by decide) .tmp)) ⟨rfl, trivial⟩ rfl <| .nil) ?_
              show AW _ _ _ _ _
              refine aw_goes (σ' := [(.tmp 6, .m (.one (.ptr 6 0))), (.tmp 7, .m (.one (.t (.v (.int .i64 v21.2.2.2.2.2.1))))), (.tmp 8, .m (.one (.t (.v (.int .i64 v21.2.2.2.2.2.2))))), (.cell 6 0, .c (.t (.sl (v21.1.map e57)))), (.cell 6 1, .c (.t (.v (.int .i64 v21.2.1)))), (.cell 6 2, .c (.t (.sl (v21.2.2.1.map e51)))), (.cell 6 3, .c (.t (.sl (v21.2.2.2.1.map e42)))), (.cell 6 4, .c (.t (.v (.int .u64 v21.2.2.2.2.1))))]) (Goes.into [(6, 6)] ⟨rfl, rfl, .refl, .refl, .refl, .refl, .refl, .refl, .refl, .refl, trivial⟩) ?_
              refine aw_ret ?_
              obtain rfl := Option.some.inj h
              refine ⟨_, rfl, fun h => ?_⟩
              obtain rfl := Option.some.inj h
              exact ⟨.inr rfl, _, [], (.cellAgg (cs := [.t (.sl (v21.1.map e57)), .t (.v (.int .i64 v21.2.1)), .t (.sl (v21.2.2.1.map e51)), .t (.sl (v21.2.2.2.1.map e42)), .t (.v (.int .u64 v21.2.2.2.2.1))]) rfl Try.isAgg33 i33 rfl ⟨rfl, rfl, rfl, rfl, rfl, trivial⟩ (.tmp rfl (.tmp rfl .nil))), rfl, rfl, rfl, ⟨rfl, rfl, trivial⟩⟩
            · have h := of_false hc11 h
              refine aw_skip ?_
              show AW _ _ _ _ _
              refine aw_region (.cons (.plain rfl (c_add rfl rfl (by decide) .tmp (.const rfl))) ⟨rfl, trivial⟩ rfl <| .cons (.plain rfl (c_move rfl rfl (by decide) .tmp)) ⟨rfl, trivial⟩ rfl <| .nil) ?_
              obtain rfl := Option.some.inj h
              exact ⟨_, rfl, (Goes.into [(6, 6), (500004, 500004)] ⟨rfl, rfl, .refl, .refl, .refl, .refl, .refl, .refl, .refl, .refl, .refl, .refl, .refl, trivial⟩)⟩
          · have h := of_false hc10 h
            refine aw_exit ?_
            obtain rfl := Option.some.inj h
            exact ⟨_, rfl, (Goes.into [(6, 6)] ⟨rfl, rfl, .refl, .refl, .refl, .refl, .refl, .refl, .refl, trivial⟩)⟩
        · show AW _ _ _ _ _
          refine aw_seq ?_
          refine aw_region (.cons (.plain rfl (c_loadTrees (cs := [.sl (p0_0.map e57), .v (.int .i64 p0_1), .sl (p0_2.map e51), .sl (p0_3.map e42), .v (.int .u64 p0_4)]) rfl rfl (by decide) Try.isAgg33 i33 rfl (show 0 + 5 ≤ 5 by decide) .tmp)) ⟨rfl, trivial⟩ rfl <| .cons (.plain rfl (c_storeBox (cs0 := [.t (.v (.slice none 0 0)), .t (.v (.int .i64 0)), .t (.v (.slice none 0 0)), .t (.v (.slice none 0 0)), .t (.v (.int .u64 0))]) (cs := [.t (.sl (p0_0.map e57)), .t (.v (.int .i64 p0_1)), .t (.sl (p0_2.map e51)), .t (.sl (p0_3.map e42)), .t (.v (.int .u64 p0_4))]) rfl rfl i33 rfl rfl .tmp .tmp)) ⟨rfl, rfl, rfl, rfl, rfl, rfl, rfl, trivial⟩ rfl <| .cons (.plain rfl (c_assign rfl rfl (by decide) (.const rfl))) trivial rfl <| .cons (.plain rfl (c_assign rfl rfl (by decide) (.const rfl))) trivial rfl <| .nil) ?_
          show AW _ _ _ _ _
          refine aw_goes (σ' := [(.tmp 6, .m (.one (.ptr 6 0))), (.tmp 7, .m (.one (.t (.v (.int .i64 0))))), (.tmp 8, .m (.one (.t (.v (.int .i64 0))))), (.cell 6 0, .c (.t (.sl (p0_0.map e57)))), (.cell 6 1, .c (.t (.v (.int .i64 p0_1)))), (.cell 6 2, .c (.t (.sl (p0_2.map e51)))), (.cell 6 3, .c (.t (.sl (p0_3.map e42)))), (.cell 6 4, .c (.t (.v (.int .u64 p0_4))))]) (Goes.into [(6, 6)] ⟨rfl, rfl, .refl, .refl, .refl, .refl, .refl, .refl, .refl, .refl, trivial⟩) ?_
          refine aw_ret ?_
          obtain rfl := Option.some.inj h
          exact ⟨.inr rfl, _, [], (.cellAgg (cs := [.t (.sl (p0_0.map e57)), .t (.v (.int .i64 p0_1)), .t (.sl (p0_2.map e51)), .t (.sl (p0_3.map e42)), .t (.v (.int .u64 p0_4))]) rfl Try.isAgg33 i33 rfl ⟨rfl, rfl, rfl, rfl, rfl, trivial⟩ (.tmp rfl (.tmp rfl .nil))), rfl, rfl, rfl, ⟨rfl, rfl, trivial⟩⟩

def ring_Half (p0_0 : Int) (p0_1 : List (Int)) : Option ((Int × (List (Int)) × (List (Int)))) := bif decide (0 < (p0_1.length : Int)) then (take_ p0_1 (wi64 ((wi64 ((p0_1.length : Int) + 1)).tdiv 2))).bind fun v1 => (slices_Clone_int v1).bind fun v2 => (drop_ p0_1 (wi64 ((wi64 ((p0_1.length : Int) + 1)).tdiv 2))).bind fun v3 => (slices_Clone_int v3).bind fun v4 => some ((p0_0, v4, v2)) else (ring_Take p0_0 p0_1).bind fun v5 => bif decide (v5.2.2 = 0) then some ((v5.1, v5.2.1, ([] : List (Int)))) else some ((v5.1, v5.2.1, [v5.2.2]))
theorem ring_Half_calls (p0_0 : Int) (p0_1 : List (Int)) (r : (Int × (List (Int)) × (List (Int)))) (h : ring_Half p0_0 p0_1 = some r) : ACalls Try.prog 66 [.agg [.t (.v (.int .i64 p0_0)), .t (.sl (p0_1.map e3))]] [] (.tup [(true, [.t (.v (.int .i64 r.1)), .t (.sl (r.2.1.map e3))]), (false, [.t (.sl (r.2.2.map e3))])]) [] := by
  unfold ring_Half at h
  refine acalls_of_AW Try.func66 rfl Try.call66 (by decide) (show 1 ≤ 41 by decide) rfl rfl ?_
  refine aw_seq ?_
  refine aw_region (.cons (.plain rfl (k_boxN rfl rfl (by decide) .tmp rfl)) ⟨rfl, trivial⟩ rfl <| .cons (.plain rfl (c_alloc rfl rfl (by decide) i51 rfl rfl rfl)) trivial rfl <| .cons (.plain rfl (c_assign rfl rfl (by decide) .nilT)) trivial rfl <| .nil) ?_
  show AW _ _ _ _ _
  refine aw_seq ?_
  refine aw_seq ?_
  refine aw_region (.cons (.plain rfl (k_fieldP 42 1 rfl rfl (by decide) Try.underlying51 rfl i42 (by decide) .tmp)) ⟨rfl, trivial⟩ rfl <| .cons (.plain rfl (c_loadCell rfl rfl (by decide) Try.isAgg42 .tmp)) ⟨rfl, rfl, trivial⟩ rfl <| .cons (.plain rfl (k_len (i := Try.t3) (l := p0_1) (f := e3) (fun _ => rfl) (by decide) rfl rfl (by decide) Try.underlying42 (src_tree (f := e3) (fun _ => rfl) (by decide) .tmp))) ⟨rfl, trivial⟩ rfl <| .cons (.plain rfl (c_gtr rfl rfl (by decide) .tmp (.const rfl))) ⟨rfl, trivial⟩ rfl <| .nil) ?_
  show AW _ _ _ _ _
  refine aw_cond .tmp ⟨rfl, trivial⟩ (fun hc1 => ?_) (fun hc1 => ?_)
  · have h := of_true hc1 h
    refine aw_seq ?_
    refine aw_region (.cons (.plain rfl (k_fieldP 42 1 rfl rfl (by decide) Try.underlying51 rfl i42 (by decide) .tmp)) ⟨rfl, trivial⟩ rfl <| .cons (.plain rfl (c_loadCell rfl rfl (by decide) Try.isAgg42 .tmp)) ⟨rfl, rfl, trivial⟩ rfl <| .cons (.plain rfl (k_len (i := Try.t3) (l := p0_1) (f := e3) (fun _ => rfl) (by decide) rfl rfl (by decide) Try.underlying42 (src_tree (f := e3) (fun _ => rfl) (by decide) .tmp))) ⟨rfl, trivial⟩ rfl <| .cons (.plain rfl (c_add rfl rfl (by decide) .tmp (.const rfl))) ⟨rfl, trivial⟩ rfl <| .cons (.plain rfl (c_quo (by decide) rfl rfl (by decide) .tmp (.const rfl))) ⟨rfl, trivial⟩ rfl <| .cons (.plain rfl (c_assign rfl rfl (by decide) .tmp)) ⟨rfl, trivial⟩ rfl <| .nil) ?_
    show AW _ _ _ _ _
    refine aw_seq ?_
    obtain ⟨v1, hv1, h⟩ := bind_some h
    obtain ⟨v2, hv2, h⟩ := bind_some h
    refine aw_region (.cons (.plain rfl (k_fieldP 42 1 rfl rfl (by decide) Try.underlying51 rfl i42 (by decide) .tmp)) ⟨rfl, trivial⟩ rfl <| .cons (.plain rfl (c_loadCell rfl rfl (by decide) Try.isAgg42 .tmp)) ⟨rfl, rfl, trivial⟩ rfl <| .cons (.plain rfl (c_move rfl rfl (by decide) .tmp)) ⟨rfl, trivial⟩ rfl <| .cons (.plain rfl (c_move rfl rfl (by decide) .tmp)) ⟨rfl, trivial⟩ rfl <| .cons (.plain rfl (k_sliceHM (f := e3) (i := Try.t3) hv1 rfl (fun _ => rfl) rfl rfl (by decide) Try.underlying42 i3 (.tree .tmp) .tmp .tmp)) ⟨rfl, rfl, rfl, trivial⟩ rfl <| .cons (.plain rfl (c_call (ins := [.one (.t (.sl (v1.map e3)))]) (caps := []) rfl rfl rfl (by decide) .clo (slices_Clone_int_calls _ _ hv2) (.cons (.le .tmp (.one .tight)) .nil) rfl rfl)) ⟨rfl, trivial⟩ rfl <| .cons (.plain rfl (c_assign rfl rfl (by decide) .tmp)) ⟨rfl, trivial⟩ rfl <| .nil) ?_
    show AW _ _ _ _ _
    refine aw_seq ?_
    obtain ⟨v3, hv3, h⟩ := bind_some h
    obtain ⟨v4, hv4, h⟩ := bind_some h
    refine aw_region (.cons (.plain rfl (k_fieldP 42 1 rfl rfl (by decide) Try.underlying51 rfl i42 (by decide) .tmp)) ⟨rfl, trivial⟩ rfl <| .cons (.plain rfl (c_loadCell rfl rfl (by decide) Try.isAgg42 .tmp)) ⟨rfl, rfl, trivial⟩ rfl <| .cons (.plain rfl (c_move rfl rfl (by decide) .tmp)) ⟨rfl, trivial⟩ rfl <| .cons (.plain rfl (k_sliceL (f := e3) (i := Try.t3) hv3 (fun _ => rfl) rfl rfl (by decide) Try.underlying42 i3 (.tree .tmp) .tmp)) ⟨rfl, rfl, trivial⟩ rfl <| .cons (.plain rfl (c_call (ins := [.one (.t (.sl (v3.map e3)))]) (caps := []) rfl rfl rfl (by decide) .clo (slices_Clone_int_calls _ _ hv4) (.cons .tmp .nil) rfl rfl)) ⟨rfl, trivial⟩ rfl <| .cons (.plain rfl (k_fieldP 42 1 rfl rfl (by decide) Try.underlying51 rfl i42 (by decide) .tmp)) ⟨rfl, trivial⟩ rfl <| .cons (.plain rfl (c_store rfl rfl i42 rfl .tmp .tmp)) ⟨rfl, rfl, rfl, trivial⟩ rfl <| .nil) ?_
    show AW _ _ _ _ _
    refine aw_seq ?_
    refine aw_region (.cons (.plain rfl (c_loadBox (cs := [.t (.v (.int .i64 p0_0)), .t (.sl (v4.map e3))]) rfl rfl (by decide) Try.isAgg51 i51 rfl .tmp)) ⟨rfl, rfl, rfl, trivial⟩ rfl <| .cons (.plain rfl (c_move rfl rfl (by decide) .tmp)) ⟨rfl, trivial⟩ rfl <| .cons (.plain rfl (c_storeBox (cs0 := [.t (.v (.int .i64 0)), .t (.v (.slice none 0 0))]) (cs := [.t (.v (.int .i64 p0_0)), .t (.sl (v4.map e3))]) rfl rfl i51 rfl rfl .tmp .tmp)) ⟨rfl, rfl, rfl, rfl, trivial⟩ rfl <| .cons (.plain rfl (c_assign rfl rfl (by decide) .tmp)) ⟨rfl, trivial⟩ rfl <| .nil) ?_
    show AW _ _ _ _ _
    refine aw_goes (σ' := [(.tmp 2, .m (.one (.ptr 2 0))), (.tmp 3, .m (.one (.t (.sl (v2.map e3))))), (.cell 2 0, .c (.t (.v (.int .i64 p0_0)))), (.cell 2 1, .c (.t (.sl (v4.map e3))))]) (Goes.into [(2, 2)] ⟨rfl, rfl, .refl, .refl, .refl, .refl, trivial⟩) ?_
    refine aw_ret ?_
    obtain rfl := Option.some.inj h
    exact ⟨.inr rfl, _, [], (.cellAgg (cs := [.t (.v (.int .i64 p0_0)), .t (.sl (v4.map e3))]) rfl Try.isAgg51 i51 rfl ⟨rfl, rfl, trivial⟩ (.tmp rfl .nil)), rfl, rfl, rfl, ⟨rfl, rfl, trivial⟩⟩
  · have h := of_false hc1 h
    refine aw_skip ?_
    show AW _ _ _ _ _
    refine aw_seq ?_
    obtain ⟨v5, hv5, h⟩ := bind_some h
    refine aw_region (.cons (.plain rfl (c_loadBox (cs := [.t (.v (.int .i64 p0_0)), .t (.sl (p0_1.map e3))]) rfl rfl (by decide) Try.isAgg51 i51 rfl .tmp)) ⟨rfl, rfl, rfl, trivial⟩ rfl <| .cons (.plain rfl (c_call (ins := [.agg [.t (.v (.int .i64 p0_0)), .t (.sl (p0_1.map e3))]]) (caps := []) rfl rfl rfl (by decide) .clo (ring_Take_calls _ _ _ hv5) (.cons .tmp .nil) rfl rfl)) ⟨rfl, trivial⟩ rfl <| .cons (.plain rfl (c_move rfl rfl (by decide) .tmp)) ⟨rfl, trivial⟩ rfl <| .cons (.plain rfl (c_extract rfl rfl (by decide) .tmp rfl rfl)) ⟨rfl, trivial⟩ rfl <| .cons (.plain rfl (c_extract rfl rfl (by decide) .tmp rfl rfl)) ⟨rfl, trivial⟩ rfl <| .cons (.plain rfl (c_storeBox (cs0 := [.t (.v (.int .i64 p0_0)), .t (.sl (p0_1.map e3))]) (cs := [.t (.v (.int .i64 v5.1)), .t (.sl (v5.2.1.map e3))]) rfl rfl i51 rfl rfl .tmp .tmp)) ⟨rfl, rfl, rfl, rfl, trivial⟩ rfl <| .cons (.plain rfl (c_assign rfl rfl (by decide) .tmp)) ⟨rfl, trivial⟩ rfl <| .nil) ?_
    show AW _ _ _ _ _
    refine aw_seq ?_
    refine aw_seq ?_
    refine aw_region (.cons (.plain rfl (c_move rfl rfl (by decide) .tmp)) ⟨rfl, trivial⟩ rfl <| .cons (.plain rfl (c_eql rfl rfl (by decide) .tmp (.const rfl))) ⟨rfl, trivial⟩ rfl <| .nil) ?_
    show AW _ _ _ _ _
    refine aw_cond .tmp ⟨rfl, trivial⟩ (fun hc2 => ?_) (fun hc2 => ?_)
    · have h := of_true hc2 h
      refine aw_seq ?_
      refine aw_region (.cons (.plain rfl (c_loadBox (cs := [.t (.v (.int .i64 v5.1)), .t (.sl (v5.2.1.map e3))]) rfl rfl (by decide) Try.isAgg51 i51 rfl .tmp)) ⟨rfl, rfl, rfl, trivial⟩ rfl <| .cons (.plain rfl (c_storeBox (cs0 := [.t (.v (.int .i64 0)), .t (.v (.slice none 0 0))]) (cs := [.t (.v (.int .i64 v5.1)), .t (.sl (v5.2.1.map e3))]) rfl rfl i51 rfl rfl .tmp .tmp)) ⟨rfl, rfl, rfl, rfl, trivial⟩ rfl <| .cons (.plain rfl (c_assign rfl rfl (by decide) .nilT)) trivial rfl <| .nil) ?_
      show AW _ _ _ _ _
      refine aw_goes (σ' := [(.tmp 2, .m (.one (.ptr 2 0))), (.tmp 3, .m (.one (.t (.sl ((([] : List (Int))).map e3))))), (.cell 2 0, .c (.t (.v (.int .i64 v5.1)))), (.cell 2 1, .c (.t (.sl (v5.2.1.map e3))))]) (Goes.into [(2, 2)] ⟨rfl, rfl, .refl, .refl, .refl, .refl, trivial⟩) ?_
      refine aw_ret ?_
      obtain rfl := Option.some.inj h
      exact ⟨.inr rfl, _, [], (.cellAgg (cs := [.t (.v (.int .i64 v5.1)), .t (.sl (v5.2.1.map e3))]) rfl Try.isAgg51 i51 rfl ⟨rfl, rfl, trivial⟩ (.tmp rfl .nil)), rfl, rfl, rfl, ⟨rfl, rfl, trivial⟩⟩
    · have h := of_false hc2 h
      refine aw_skip ?_
      show AW _ _ _ _ _
      refine aw_seq ?_
      refine aw_region (.cons (.plain rfl (c_loadBox (cs := [.t (.v (.int .i64 v5.1)), .t (.sl (v5.2.1.map e3))]) rfl rfl (by decide) Try.isAgg51 i51 rfl .tmp)) ⟨rfl, rfl, rfl, trivial⟩ rfl <| .cons (.plain rfl (c_move rfl rfl (by decide) .tmp)) ⟨rfl, trivial⟩ rfl <| .cons (.plain rfl (.frozen (by simp) (c_buildSlice (sz := 1) (es := [v5.2.2].map e3) rfl rfl (by decide) Try.underlying42 i3 rfl rfl rfl rfl (by decide) (.c1 .tmp .nil) rfl (emb_len (f := e3) (n := 1) (fun _ => rfl) _) (by decide)))) ⟨rfl, trivial⟩ rfl <| .cons (.plain rfl (c_storeBox (cs0 := [.t (.v (.int .i64 0)), .t (.v (.slice none 0 0))]) (cs := [.t (.v (.int .i64 v5.1)), .t (.sl (v5.2.1.map e3))]) rfl rfl i51 rfl rfl .tmp .tmp)) ⟨rfl, rfl, rfl, rfl, trivial⟩ rfl <| .cons (.plain rfl (c_assign rfl rfl (by decide) .tmp)) ⟨rfl, trivial⟩ rfl <| .nil) ?_
      show AW _ _ _ _ _
      refine aw_goes (σ' := [(.tmp 2, .m (.one (.ptr 2 0))), (.tmp 3, .m (.one (.t (.sl ([v5.2.2].map e3))))), (.cell 2 0, .c (.t (.v (.int .i64 v5.1)))), (.cell 2 1, .c (.t (.sl (v5.2.1.map e3))))]) (Goes.into [(2, 2)] ⟨rfl, rfl, .refl, .refl, .refl, .refl, trivial⟩) ?_
      refine aw_ret ?_
      obtain rfl := Option.some.inj h
      exact ⟨.inr rfl, _, [], (.cellAgg (cs := [.t (.v (.int .i64 v5.1)), .t (.sl (v5.2.1.map e3))]) rfl Try.isAgg51 i51 rfl ⟨rfl, rfl, trivial⟩ (.tmp rfl .nil)), rfl, rfl, rfl, ⟨rfl, rfl, trivial⟩⟩

def slices_Grow_int (p1 : Int) : Option (List (Int)) := (bif decide (p1 < 0) then none else some (()) : Option Unit).bind fun v1 => (bif decide (0 < wi64 (p1 - wi64 (0 - ((([] : List (Int))).length : Int)))) then (need (0 < wi64 (p1 - wi64 (0 - ((([] : List (Int))).length : Int))) ∧ wi64 (p1 - wi64 (0 - ((([] : List (Int))).length : Int))) ≤ 1000000000)).bind fun v4 => (take_ (List.replicate (wi64 (p1 - wi64 (0 - ((([] : List (Int))).length : Int)))).toNat 0) (((([] : List (Int))).length : Int))).bind fun v5 => some v5 else some (([] : List (Int))) : Option (List (Int))).bind fun v6 => some v6
theorem slices_Grow_int_row (p1 : Int) (r : List (Int)) (h : slices_Grow_int p1 = some r) : ACalls Try.prog 87 [.one (.t (.v (.slice none 0 0))), .one (.t (.v (.int .i64 p1)))] [] (.one (.row 2000000)) [(.row 2000000, .r 3 1 (r.map e3))] := by
  unfold slices_Grow_int at h
  refine acalls_of_AW Try.func87 rfl Try.call87 (by decide) (show 2 ≤ 27 by decide) rfl rfl ?_
  refine aw_seq ?_
  refine aw_region (.cons (.plain rfl (c_assign rfl rfl (by decide) (.const rfl))) trivial rfl <| .nil) ?_
  show AW _ _ _ _ _
  refine aw_seq ?_
  refine aw_cut0 (fun v1 : Unit => [(.tmp 0, .m (.one (.t (.v (.slice none 0 0))))), (.tmp 1, .m (.one (.t (.v (.int .i64 p1)))))]) h (fun _ h => ?_) (fun v1 h => ?_)
  · refine aw_seq ?_
    refine aw_region (.cons (.plain rfl (c_move rfl rfl (by decide) .tmp)) ⟨rfl, trivial⟩ rfl <| .cons (.plain rfl (c_lss rfl rfl (by decide) .tmp (.const rfl))) ⟨rfl, trivial⟩ rfl <| .nil) ?_
    show AW _ _ _ _ _
    refine aw_cond .tmp ⟨rfl, trivial⟩ (fun hc2 => ?_) (fun hc2 => ?_)
    · have h := of_true hc2 h
      cases h
    · have h := of_false hc2 h
      refine aw_skip ?_
      obtain rfl := Option.some.inj h
      show Goes _ _
      exact (Goes.into [] ⟨rfl, rfl, .refl, .refl, trivial⟩)
  · show AW _ _ _ _ _
    refine aw_seq ?_
    refine aw_cut0 (fun v6 : List (Int) => [(.tmp 0, .m (.one (.row 500001))), (.row 500001, .r 3 1 (v6.map e3))]) h (fun _ h => ?_) (fun v6 h => ?_)
    · refine aw_seq ?_
      refine aw_region (.cons (.plain rfl (c_move rfl rfl (by decide) .tmp)) ⟨rfl, trivial⟩ rfl <| .cons (.plain rfl (c_move rfl rfl (by decide) .tmp)) ⟨rfl, trivial⟩ rfl <| .cons (.plain rfl (c_capNil rfl rfl (by decide) Try.underlying42 .tmp)) ⟨rfl, trivial⟩ rfl <| .cons (.plain rfl (c_move rfl rfl (by decide) .tmp)) ⟨rfl, trivial⟩ rfl <| .cons (.plain rfl (k_len (i := Try.t3) (l := ([] : List (Int))) (f := e3) (fun _ => rfl) (by decide) rfl rfl (by decide) Try.underlying42 (src_nil (f := e3) (by decide) .tmp))) ⟨rfl, trivial⟩ rfl <| .cons (.plain rfl (c_sub rfl rfl (by decide) .tmp .tmp)) ⟨rfl, rfl, trivial⟩ rfl <| .cons (.plain rfl (c_sub rfl rfl (by decide) .tmp .tmp)) ⟨rfl, rfl, trivial⟩ rfl <| .cons (.plain rfl (c_assign rfl rfl (by decide) .tmp)) ⟨rfl, trivial⟩ rfl <| .nil) ?_
      show AW _ _ _ _ _
      refine aw_seq ?_
      refine aw_region (.cons (.plain rfl (c_move rfl rfl (by decide) .tmp)) ⟨rfl, trivial⟩ rfl <| .cons (.plain rfl (c_gtr rfl rfl (by decide) .tmp (.const rfl))) ⟨rfl, trivial⟩ rfl <| .nil) ?_
      show AW _ _ _ _ _
      refine aw_cond .tmp ⟨rfl, trivial⟩ (fun hc4 => ?_) (fun hc4 => ?_)
      · have h := of_true hc4 h
        obtain ⟨v4, hv4, h⟩ := bind_some h
        obtain ⟨v5, hv5, h⟩ := bind_some h
        refine aw_region (.cons (.plain rfl (c_move rfl rfl (by decide) .tmp)) ⟨rfl, trivial⟩ rfl <| .cons (.plain rfl (c_move rfl rfl (by decide) .tmp)) ⟨rfl, trivial⟩ rfl <| .cons (.plain rfl (c_capNil rfl rfl (by decide) Try.underlying42 .tmp)) ⟨rfl, trivial⟩ rfl <| .cons (.plain rfl (c_sliceNil rfl rfl (by decide) Try.underlying42 i3 .tmp .tmp)) ⟨rfl, rfl, trivial⟩ rfl <| .cons (.plain rfl (c_move rfl rfl (by decide) .tmp)) ⟨rfl, trivial⟩ rfl <| .cons (.plain rfl (k_appendMake (f := e3) (zz := 0) (need_of hv4) (by decide) rfl rfl (by decide) Try.underlying42 Try.underlying3 i3 rfl rfl rfl (by decide) rfl rfl rfl .tmp .tmp)) ⟨rfl, rfl, trivial⟩ rfl <| .cons (.plain rfl (c_move rfl rfl (by decide) .tmp)) ⟨rfl, trivial⟩ rfl <| .cons (.plain rfl (k_len (i := Try.t3) (l := ([] : List (Int))) (f := e3) (fun _ => rfl) (by decide) rfl rfl (by decide) Try.underlying42 (src_nil (f := e3) (by decide) .tmp))) ⟨rfl, trivial⟩ rfl <| .cons (.plain rfl (k_takeRow (f := e3) hv5 (by decide) rfl rfl (by decide) Try.underlying42 i3 .tmp .tmp)) ⟨rfl, rfl, rfl, trivial⟩ rfl <| .cons (.plain rfl (c_assign rfl rfl (by decide) .tmp)) ⟨rfl, trivial⟩ rfl <| .nil) ?_
        obtain rfl := Option.some.inj h
        show Goes _ _
        exact (Goes.into [(500001, 25)] ⟨rfl, rfl, .refl, .refl, trivial⟩)
      · have h := of_false hc4 h
        refine aw_skip ?_
        obtain rfl := Option.some.inj h
        show Goes _ _
        exact (Goes.trans (Goes.nilRow (t := 0) (n := 500002) 3 1 (by decide) rfl (by decide) rfl) (Goes.into [(500001, 500002)] ⟨rfl, rfl, .refl, .refl, trivial⟩))
    · show AW _ _ _ _ _
      refine aw_seq ?_
      refine aw_region (.cons (.plain rfl (c_move rfl rfl (by decide) .tmp)) ⟨rfl, trivial⟩ rfl <| .cons (.plain rfl (c_assign rfl rfl (by decide) .tmp)) ⟨rfl, trivial⟩ rfl <| .nil) ?_
      show AW _ _ _ _ _
      refine aw_goes (σ' := [(.tmp 4, .m (.one (.row 500003))), (.row 500003, .r 3 1 (v6.map e3))]) (Goes.into [(500003, 500001)] ⟨rfl, rfl, .refl, .refl, trivial⟩) ?_
      refine aw_ret ?_
      obtain rfl := Option.some.inj h
      exact ⟨.inr rfl, _, [(2000000, 500003)], (.tmp rfl .nil), rfl, rfl, rfl, ⟨rfl, rfl, .refl, trivial⟩⟩
def slices_Concat_int_L1 (p0 : List ((List (Int)))) (v9 : (Int × Int)) : Option ((Int × Int) ⊕ Int) := bif decide (v9.2 < (p0.length : Int)) then ((at_ p0 v9.2).bind fun v12 => bif decide (wi64 (v9.1 + (v12.length : Int)) < 0) then none else some (wi64 (v9.1 + (v12.length : Int))) : Option Int).bind fun v13 => some (.inl ((v13, wi64 (v9.2 + 1)))) else some (.inr v9.1)
def slices_Concat_int_L2 (p0 : List ((List (Int)))) (v21 : ((List (Int)) × Int)) : Option (((List (Int)) × Int) ⊕ List (Int)) := bif decide (v21.2 < (p0.length : Int)) then (at_ p0 v21.2).bind fun v23 => (app_ v21.1 v23).bind fun v24 => some (.inl ((v24, wi64 (v21.2 + 1)))) else some (.inr v21.1)
def slices_Concat_int (p0 : List ((List (Int)))) : Option (List (Int)) := (loopO (slices_Concat_int_L1 p0) fuel ((0, 0))).bind fun v10 => (slices_Grow_int v10).bind fun v14 => (loopO (slices_Concat_int_L2 p0) fuel ((v14, 0))).bind fun v22 => some v22
theorem slices_Concat_int_calls (p0 : List ((List (Int)))) (r : List (Int)) (h : slices_Concat_int p0 = some r) : ACalls Try.prog 69 [.one (.t (.sl (p0.map e42)))] [] (.one (.t (.sl (r.map e3)))) [] := by
  unfold slices_Concat_int at h
  refine acalls_of_AW Try.func69 rfl Try.call69 (by decide) (show 1 ≤ 36 by decide) rfl rfl ?_
  refine aw_seq ?_
  refine aw_region (.cons (.plain rfl (c_assign rfl rfl (by decide) .nilT)) trivial rfl <| .nil) ?_
  show AW _ _ _ _ _
  refine aw_seq ?_
  refine aw_region (.cons (.plain rfl (c_assign rfl rfl (by decide) (.const rfl))) trivial rfl <| .nil) ?_
  show AW _ _ _ _ _
  refine aw_seq ?_
  refine aw_seq ?_
  refine aw_region (.cons (.plain rfl (c_move rfl rfl (by decide) .tmp)) ⟨rfl, trivial⟩ rfl <| .cons (.plain rfl (k_len (i := Try.t42) (l := p0) (f := e42) (fun _ => rfl) (by decide) rfl rfl (by decide) Try.underlying24 (src_tree (f := e42) (fun _ => rfl) (by decide) .tmp))) ⟨rfl, trivial⟩ rfl <| .cons (.plain rfl (c_move rfl rfl (by decide) (.const rfl))) trivial rfl <| .nil) ?_
  show AW _ _ _ _ _
  refine aw_loop0 (fun v9 : (Int × Int) => [(.tmp 0, .m (.one (.t (.sl (p0.map e42))))), (.tmp 3, .m (.one (.t (.v (.int .i64 v9.1))))), (.tmp 9, .m (.one (.t (.sl (p0.map e42))))), (.tmp 10, .m (.one (.t (.v (.int .i64 ((p0.length : Int))))))), (.tmp 11, .m (.one (.t (.v (.int .i64 v9.2)))))]) (fun v10 : Int => [(.tmp 0, .m (.one (.t (.sl (p0.map e42))))), (.tmp 3, .m (.one (.t (.v (.int .i64 v10)))))]) h (Goes.into [] ⟨rfl, rfl, .refl, .refl, .refl, .refl, .refl, trivial⟩) (fun v9 _ h => ?_) (fun v10 h => ?_)
  · unfold slices_Concat_int_L1 at h
    refine aw_seq ?_
    refine aw_region (.cons (.plain rfl (c_lss rfl rfl (by decide) .tmp .tmp)) ⟨rfl, rfl, trivial⟩ rfl <| .nil) ?_
    show AW _ _ _ _ _
    refine aw_seq ?_
    refine aw_cond .tmp ⟨rfl, trivial⟩ (fun hc7 => ?_) (fun hc7 => ?_)
    · have h := of_true hc7 h
      refine aw_skip ?_
      show AW _ _ _ _ _
      refine aw_seq ?_
      refine aw_cut0 (fun v13 : Int => [(.tmp 0, .m (.one (.t (.sl (p0.map e42))))), (.tmp 3, .m (.one (.t (.v (.int .i64 v13))))), (.tmp 9, .m (.one (.t (.sl (p0.map e42))))), (.tmp 10, .m (.one (.t (.v (.int .i64 ((p0.length : Int))))))), (.tmp 11, .m (.one (.t (.v (.int .i64 v9.2)))))]) h (fun _ h => ?_) (fun v13 h => ?_)
      · refine aw_block ?_
        refine aw_seq ?_
        obtain ⟨v12, hv12, h⟩ := bind_some h
        refine aw_region (.cons (.plain rfl (k_index (f := e42) (i := Try.t42) hv12 rfl rfl rfl (by decide) Try.underlying24 i42 .tmp .tmp)) ⟨rfl, rfl, trivial⟩ rfl <| .cons (.plain rfl (c_loadTree rfl rfl (by decide) Try.isAgg42 .tmp rfl)) ⟨rfl, trivial⟩ rfl <| .cons (.plain rfl (c_assign rfl rfl (by decide) .tmp)) ⟨rfl, trivial⟩ rfl <| .nil) ?_
        show AW _ _ _ _ _
        refine aw_seq ?_
        refine aw_region (.cons (.plain rfl (c_move rfl rfl (by decide) .tmp)) ⟨rfl, trivial⟩ rfl <| .cons (.plain rfl (c_move rfl rfl (by decide) .tmp)) ⟨rfl, trivial⟩ rfl <| .cons (.plain rfl (k_len (i := Try.t3) (l := v12) (f := e3) (fun _ => rfl) (by decide) rfl rfl (by decide) Try.underlying42 (src_tree (f := e3) (fun _ => rfl) (by decide) .tmp))) ⟨rfl, trivial⟩ rfl <| .cons (.plain rfl (c_add rfl rfl (by decide) .tmp .tmp)) ⟨rfl, rfl, trivial⟩ rfl <| .cons (.plain rfl (c_assign rfl rfl (by decide) .tmp)) ⟨rfl, trivial⟩ rfl <| .nil) ?_
        show AW _ _ _ _ _
        refine aw_seq ?_
        refine aw_region (.cons (.plain rfl (c_move rfl rfl (by decide) .tmp)) ⟨rfl, trivial⟩ rfl <| .cons (.plain rfl (c_lss rfl rfl (by decide) .tmp (.const rfl))) ⟨rfl, trivial⟩ rfl <| .nil) ?_
        show AW _ _ _ _ _
        refine aw_cond .tmp ⟨rfl, trivial⟩ (fun hc9 => ?_) (fun hc9 => ?_)
        · have h := of_true hc9 h
          cases h
        · have h := of_false hc9 h
          refine aw_skip ?_
          obtain rfl := Option.some.inj h
          show Goes _ _
          exact (Goes.into [] ⟨rfl, rfl, .refl, .refl, .refl, .refl, .refl, trivial⟩)
      · show AW _ _ _ _ _
        refine aw_region (.cons (.plain rfl (c_add rfl rfl (by decide) .tmp (.const rfl))) ⟨rfl, trivial⟩ rfl <| .cons (.plain rfl (c_move rfl rfl (by decide) .tmp)) ⟨rfl, trivial⟩ rfl <| .nil) ?_
        obtain rfl := Option.some.inj h
        exact ⟨_, rfl, (Goes.into [] ⟨rfl, rfl, .refl, .refl, .refl, .refl, .refl, trivial⟩)⟩
    · have h := of_false hc7 h
      refine aw_exit ?_
      obtain rfl := Option.some.inj h
      exact ⟨rfl, _, rfl, (Goes.into [] ⟨rfl, rfl, .refl, .refl, trivial⟩)⟩
  · show AW _ _ _ _ _
    refine aw_seq ?_
    obtain ⟨v14, hv14, h⟩ := bind_some h
    refine aw_region (.cons (.plain rfl (c_move rfl rfl (by decide) .tmp)) ⟨rfl, trivial⟩ rfl <| .cons (.plain rfl (c_callNew (out' := .one (.row 24)) (post' := [(.row 24, .r 3 1 (v14.map e3))]) (qs := [(24, 2000000)]) (nw := [24]) rfl rfl rfl (by decide) (slices_Grow_int_row _ _ hv14) (.cons (.const rfl) (.cons .tmp .nil)) rfl rfl rfl rfl rfl ⟨.refl, trivial⟩ rfl rfl rfl)) ⟨rfl, trivial⟩ rfl <| .cons (.plain rfl (c_assign rfl rfl (by decide) .tmp)) ⟨rfl, trivial⟩ rfl <| .nil) ?_
    show AW _ _ _ _ _
    refine aw_seq ?_
    refine aw_seq ?_
    refine aw_region (.cons (.plain rfl (c_move rfl rfl (by decide) .tmp)) ⟨rfl, trivial⟩ rfl <| .cons (.plain rfl (k_len (i := Try.t42) (l := p0) (f := e42) (fun _ => rfl) (by decide) rfl rfl (by decide) Try.underlying24 (src_tree (f := e42) (fun _ => rfl) (by decide) .tmp))) ⟨rfl, trivial⟩ rfl <| .cons (.plain rfl (c_move rfl rfl (by decide) (.const rfl))) trivial rfl <| .nil) ?_
    show AW _ _ _ _ _
    refine aw_loop0 (fun v21 : ((List (Int)) × Int) => [(.tmp 6, .m (.one (.row 500003))), (.tmp 25, .m (.one (.t (.sl (p0.map e42))))), (.tmp 26, .m (.one (.t (.v (.int .i64 ((p0.length : Int))))))), (.tmp 27, .m (.one (.t (.v (.int .i64 v21.2))))), (.row 500003, .r 3 1 (v21.1.map e3))]) (fun v22 : List (Int) => [(.tmp 6, .m (.one (.row 500005))), (.row 500005, .r 3 1 (v22.map e3))]) h (Goes.into [(500003, 24)] ⟨rfl, rfl, .refl, .refl, .refl, .refl, .refl, trivial⟩) (fun v21 _ h => ?_) (fun v22 h => ?_)
    · unfold slices_Concat_int_L2 at h
      refine aw_seq ?_
      refine aw_region (.cons (.plain rfl (c_lss rfl rfl (by decide) .tmp .tmp)) ⟨rfl, rfl, trivial⟩ rfl <| .nil) ?_
      show AW _ _ _ _ _
      refine aw_seq ?_
      refine aw_cond .tmp ⟨rfl, trivial⟩ (fun hc12 => ?_) (fun hc12 => ?_)
      · have h := of_true hc12 h
        refine aw_skip ?_
        show AW _ _ _ _ _
        refine aw_seq ?_
        refine aw_block ?_
        refine aw_seq ?_
        obtain ⟨v23, hv23, h⟩ := bind_some h
        refine aw_region (.cons (.plain rfl (k_index (f := e42) (i := Try.t42) hv23 rfl rfl rfl (by decide) Try.underlying24 i42 .tmp .tmp)) ⟨rfl, rfl, trivial⟩ rfl <| .cons (.plain rfl (c_loadTree rfl rfl (by decide) Try.isAgg42 .tmp rfl)) ⟨rfl, trivial⟩ rfl <| .cons (.plain rfl (c_assign rfl rfl (by decide) .tmp)) ⟨rfl, trivial⟩ rfl <| .nil) ?_
        show AW _ _ _ _ _
        obtain ⟨v24, hv24, h⟩ := bind_some h
        refine aw_region (.cons (.plain rfl (c_move rfl rfl (by decide) .tmp)) ⟨rfl, trivial⟩ rfl <| .cons (.plain rfl (c_move rfl rfl (by decide) .tmp)) ⟨rfl, trivial⟩ rfl <| .cons (.plain rfl (k_appendRow (f := e3) hv24 (by decide) (by decide) rfl rfl (by decide) Try.underlying42 i3 rfl rfl rfl rfl (by decide) .tmp (src_tree (f := e3) (fun _ => rfl) (by decide) .tmp))) ⟨rfl, rfl, rfl, trivial⟩ rfl <| .cons (.plain rfl (c_assign rfl rfl (by decide) .tmp)) ⟨rfl, trivial⟩ rfl <| .nil) ?_
        show AW _ _ _ _ _
        refine aw_region (.cons (.plain rfl (c_add rfl rfl (by decide) .tmp (.const rfl))) ⟨rfl, trivial⟩ rfl <| .cons (.plain rfl (c_move rfl rfl (by decide) .tmp)) ⟨rfl, trivial⟩ rfl <| .nil) ?_
        obtain rfl := Option.some.inj h
        exact ⟨_, rfl, (Goes.into [(500003, 33)] ⟨rfl, rfl, .refl, .refl, .refl, .refl, .refl, trivial⟩)⟩
      · have h := of_false hc12 h
        refine aw_exit ?_
        obtain rfl := Option.some.inj h
        exact ⟨rfl, _, rfl, (Goes.into [(500005, 500003)] ⟨rfl, rfl, .refl, .refl, trivial⟩)⟩
    · show AW _ _ _ _ _
      refine aw_seq ?_
      refine aw_region (.cons (.plain rfl (c_move rfl rfl (by decide) .tmp)) ⟨rfl, trivial⟩ rfl <| .cons (.plain rfl (c_assign rfl rfl (by decide) .tmp)) ⟨rfl, trivial⟩ rfl <| .nil) ?_
      show AW _ _ _ _ _
      refine aw_goes (σ' := [(.tmp 2, .m (.one (.t (.sl (v22.map e3)))))]) (Goes.trans (Goes.freezeRow (n := 500005) rfl) (Goes.into [] ⟨rfl, rfl, .refl, trivial⟩)) ?_
      refine aw_ret ?_
      obtain rfl := Option.some.inj h
      exact ⟨.inr rfl, _, [], (.tmp rfl .nil), rfl, rfl, rfl, ⟨rfl, rfl, trivial⟩⟩

def steal_take (p0_0 : List (Int × Int)) (p0_1 : Int) (p0_2 : List (Int × (List (Int)))) (p0_3 : List ((List (Int)))) (p0_4 : Int) (p1 : Int) (p2 : Int) : Option (((List (Int × Int)) × Int × (List (Int × (List (Int)))) × (List ((List (Int)))) × Int × Int × Int)) := (at_ p0_2 p2).bind fun v1 => (ring_Half v1.1 v1.2).bind fun v2 => (slices_Clone_ring_Ring p0_2).bind fun v3 => (slices_Clone_Lint p0_3).bind fun v4 => (at_ v3 p2).bind fun v5 => (drop_ v2.2.2 1).bind fun v6 => (take_ v6 ((if p0_1 < (v6.length : Int) then p0_1 else (v6.length : Int)))).bind fun v7 => (at_ (set_ v3 p2 ((v2.1, v2.2.1))) p1).bind fun v8 => (dist_Node p0_0 p1).bind fun v9 => (at_ v4 v9).bind fun v10 => (drop_ v6 ((if p0_1 < (v6.length : Int) then p0_1 else (v6.length : Int)))).bind fun v11 => (slices_Concat_int [v10, v11]).bind fun v12 => (at_ v4 v9).bind fun v13 => (at_ v2.2.2 0).bind fun v14 => (dist_Far p0_0 p1 p2).bind fun v15 => some ((p0_0, p0_1, set_ (set_ v3 p2 ((v2.1, v2.2.1))) p1 ((0, v7)), set_ v4 v9 v12, p0_4, v14, v15))
theorem steal_take_calls (p0_0 : List (Int × Int)) (p0_1 : Int) (p0_2 : List (Int × (List (Int)))) (p0_3 : List ((List (Int)))) (p0_4 : Int) (p1 : Int) (p2 : Int) (r : ((List (Int × Int)) × Int × (List (Int × (List (Int)))) × (List ((List (Int)))) × Int × Int × Int)) (h : steal_take p0_0 p0_1 p0_2 p0_3 p0_4 p1 p2 = some r) : ACalls Try.prog 29 [.agg [.t (.sl (p0_0.map e57)), .t (.v (.int .i64 p0_1)), .t (.sl (p0_2.map e51)), .t (.sl (p0_3.map e42)), .t (.v (.int .u64 p0_4))], .one (.t (.v (.int .i64 p1))), .one (.t (.v (.int .i64 p2)))] [] (.tup [(true, [.t (.sl (r.1.map e57)), .t (.v (.int .i64 r.2.1)), .t (.sl (r.2.2.1.map e51)), .t (.sl (r.2.2.2.1.map e42)), .t (.v (.int .u64 r.2.2.2.2.1))]), (false, [.t (.v (.int .i64 r.2.2.2.2.2.1))]), (false, [.t (.v (.int .i64 r.2.2.2.2.2.2))])]) [] := by
  unfold steal_take at h
  refine acalls_of_AW Try.func29 rfl Try.call29 (by decide) (show 3 ≤ 79 by decide) rfl rfl ?_
  refine aw_seq ?_
  refine aw_region (.cons (.plain rfl (k_boxN rfl rfl (by decide) .tmp rfl)) ⟨rfl, trivial⟩ rfl <| .cons (.plain rfl (c_alloc rfl rfl (by decide) i33 rfl rfl rfl)) trivial rfl <| .cons (.plain rfl (c_assign rfl rfl (by decide) (.const rfl))) trivial rfl <| .cons (.plain rfl (c_assign rfl rfl (by decide) (.const rfl))) trivial rfl <| .nil) ?_
  show AW _ _ _ _ _
  refine aw_seq ?_
  obtain ⟨v1, hv1, h⟩ := bind_some h
  obtain ⟨v2, hv2, h⟩ := bind_some h
  refine aw_region (.cons (.plain rfl (k_fieldP 30 2 rfl rfl (by decide) Try.underlying33 rfl i30 (by decide) .tmp)) ⟨rfl, trivial⟩ rfl <| .cons (.plain rfl (c_loadCell rfl rfl (by decide) Try.isAgg30 .tmp)) ⟨rfl, rfl, trivial⟩ rfl <| .cons (.plain rfl (c_move rfl rfl (by decide) .tmp)) ⟨rfl, trivial⟩ rfl <| .cons (.plain rfl (k_index (f := e51) (i := Try.t51) hv1 rfl rfl rfl (by decide) Try.underlying30 i51 .tmp .tmp)) ⟨rfl, rfl, trivial⟩ rfl <| .cons (.plain rfl (c_loadTrees (cs := [.v (.int .i64 v1.1), .sl (v1.2.map e3)]) rfl rfl (by decide) Try.isAgg51 i51 rfl (show 0 + 2 ≤ 2 by decide) .tmp)) ⟨rfl, trivial⟩ rfl <| .cons (.plain rfl (c_call (ins := [.agg [.t (.v (.int .i64 v1.1)), .t (.sl (v1.2.map e3))]]) (caps := []) rfl rfl rfl (by decide) .clo (ring_Half_calls _ _ _ hv2) (.cons .tmp .nil) rfl rfl)) ⟨rfl, trivial⟩ rfl <| .cons (.plain rfl (c_move rfl rfl (by decide) .tmp)) ⟨rfl, trivial⟩ rfl <| .cons (.plain rfl (c_extract rfl rfl (by decide) .tmp rfl rfl)) ⟨rfl, trivial⟩ rfl <| .cons (.plain rfl (c_extract rfl rfl (by decide) .tmp rfl rfl)) ⟨rfl, trivial⟩ rfl <| .cons (.plain rfl (c_alloc rfl rfl (by decide) i51 rfl rfl rfl)) trivial rfl <| .cons (.plain rfl (c_storeBox (cs0 := [.t (.v (.int .i64 0)), .t (.v (.slice none 0 0))]) (cs := [.t (.v (.int .i64 v2.1)), .t (.sl (v2.2.1.map e3))]) rfl rfl i51 rfl rfl .tmp .tmp)) ⟨rfl, rfl, rfl, rfl, trivial⟩ rfl <| .cons (.plain rfl (c_assign rfl rfl (by decide) .tmp)) ⟨rfl, trivial⟩ rfl <| .nil) ?_
  show AW _ _ _ _ _
  refine aw_seq ?_
  obtain ⟨v3, hv3, h⟩ := bind_some h
  obtain ⟨v4, hv4, h⟩ := bind_some h
  refine aw_region_draw mixed (.cons (.plain rfl (k_fieldP 30 2 rfl rfl (by decide) Try.underlying33 rfl i30 (by decide) .tmp)) ⟨rfl, trivial⟩ rfl <| .cons (.plain rfl (c_loadCell rfl rfl (by decide) Try.isAgg30 .tmp)) ⟨rfl, rfl, trivial⟩ rfl <| .cons (.plain rfl (c_callNew (out' := .one (.row 25)) (post' := [(.row 25, .r 51 2 (v3.map e51))]) (qs := [(25, 2000000)]) (nw := [25]) rfl rfl rfl (by decide) (slices_Clone_ring_Ring_row _ _ hv3) (.cons .tmp .nil) rfl rfl rfl rfl rfl ⟨.refl, trivial⟩ rfl rfl rfl)) ⟨rfl, trivial⟩ rfl <| .cons (.plain rfl (k_fieldP 24 3 rfl rfl (by decide) Try.underlying33 rfl i24 (by decide) .tmp)) ⟨rfl, trivial⟩ rfl <| .cons (.plain rfl (c_loadCell rfl rfl (by decide) Try.isAgg24 .tmp)) ⟨rfl, rfl, trivial⟩ rfl <| .cons (.plain rfl (c_callNew (out' := .one (.row 28)) (post' := [(.row 28, .r 42 1 (v4.map e42))]) (qs := [(28, 2000000)]) (nw := [28]) rfl rfl rfl (by decide) (slices_Clone_Lint_row _ _ hv4) (.cons .tmp .nil) rfl rfl rfl rfl rfl ⟨.refl, trivial⟩ rfl rfl rfl)) ⟨rfl, trivial⟩ rfl <| .cons (.plain rfl (k_fieldP 30 2 rfl rfl (by decide) Try.underlying33 rfl i30 (by decide) .tmp)) ⟨rfl, trivial⟩ rfl <| .cons (.plain rfl (c_store rfl rfl i30 rfl .tmp .tmp)) ⟨rfl, rfl, rfl, trivial⟩ rfl <| .cons (.plain rfl (k_fieldP 24 3 rfl rfl (by decide) Try.underlying33 rfl i24 (by decide) .tmp)) ⟨rfl, trivial⟩ rfl <| .cons (.plain rfl (c_store rfl rfl i24 rfl .tmp .tmp)) ⟨rfl, rfl, rfl, trivial⟩ rfl <| .nil) rfl rfl ?_
  show AW _ _ _ _ _
  refine aw_seq ?_
  obtain ⟨v5, hv5, h⟩ := bind_some h
  refine aw_region (.cons (.plain rfl (k_fieldP 30 2 rfl rfl (by decide) Try.underlying33 rfl i30 (by decide) .tmp)) ⟨rfl, trivial⟩ rfl <| .cons (.plain rfl (c_loadCell rfl rfl (by decide) Try.isAgg30 .tmp)) ⟨rfl, rfl, trivial⟩ rfl <| .cons (.plain rfl (c_move rfl rfl (by decide) .tmp)) ⟨rfl, trivial⟩ rfl <| .cons (.plain rfl (c_loadBox (cs := [.t (.v (.int .i64 v2.1)), .t (.sl (v2.2.1.map e3))]) rfl rfl (by decide) Try.isAgg51 i51 rfl .tmp)) ⟨rfl, rfl, rfl, trivial⟩ rfl <| .cons (.plain rfl (k_indexRow (f := e51) (i := Try.t51) hv5 rfl rfl rfl (by decide) Try.underlying30 i51 .tmp .tmp)) ⟨rfl, rfl, rfl, trivial⟩ rfl <| .cons (.plain rfl (k_setRowN (f := e51) (new := (v2.1, v2.2.1)) (ts := [.v (.int .i64 v2.1), .sl (v2.2.1.map e3)]) hv5 (show 0 + 2 ≤ 2 by decide) rfl rfl rfl i51 rfl .tmp .tmp)) ⟨rfl, rfl, rfl, trivial⟩ rfl <| .nil) ?_
  show AW _ _ _ _ _
  refine aw_seq ?_
  obtain ⟨v6, hv6, h⟩ := bind_some h
  refine aw_region (.cons (.plain rfl (c_move rfl rfl (by decide) .tmp)) ⟨rfl, trivial⟩ rfl <| .cons (.plain rfl (k_sliceL (f := e3) (i := Try.t3) hv6 (fun _ => rfl) rfl rfl (by decide) Try.underlying42 i3 (.tree .tmp) (.const rfl))) ⟨rfl, trivial⟩ rfl <| .cons (.plain rfl (c_assign rfl rfl (by decide) .tmp)) ⟨rfl, trivial⟩ rfl <| .nil) ?_
  show AW _ _ _ _ _
  refine aw_seq ?_
  refine aw_region (.cons (.plain rfl (c_move rfl rfl (by decide) .tmp)) ⟨rfl, trivial⟩ rfl <| .cons (.plain rfl (k_len (i := Try.t3) (l := v6) (f := e3) (fun _ => rfl) (by decide) rfl rfl (by decide) Try.underlying42 (src_tree (f := e3) (fun _ => rfl) (by decide) .tmp))) ⟨rfl, trivial⟩ rfl <| .cons (.plain rfl (k_fieldP 3 1 rfl rfl (by decide) Try.underlying33 rfl i3 (by decide) .tmp)) ⟨rfl, trivial⟩ rfl <| .cons (.plain rfl (c_loadCell rfl rfl (by decide) Try.isAgg3 .tmp)) ⟨rfl, rfl, trivial⟩ rfl <| .cons (.plain rfl (c_min rfl rfl (by decide) .tmp .tmp)) ⟨rfl, rfl, trivial⟩ rfl <| .cons (.plain rfl (c_assign rfl rfl (by decide) .tmp)) ⟨rfl, trivial⟩ rfl <| .nil) ?_
  show AW _ _ _ _ _
  refine aw_seq ?_
  obtain ⟨v7, hv7, h⟩ := bind_some h
  obtain ⟨v8, hv8, h⟩ := bind_some h
  refine aw_region_draw mixed (.cons (.plain rfl (k_fieldP 30 2 rfl rfl (by decide) Try.underlying33 rfl i30 (by decide) .tmp)) ⟨rfl, trivial⟩ rfl <| .cons (.plain rfl (c_loadCell rfl rfl (by decide) Try.isAgg30 .tmp)) ⟨rfl, rfl, trivial⟩ rfl <| .cons (.plain rfl (c_move rfl rfl (by decide) .tmp)) ⟨rfl, trivial⟩ rfl <| .cons (.plain rfl (c_move rfl rfl (by decide) .tmp)) ⟨rfl, trivial⟩ rfl <| .cons (.plain rfl (c_move rfl rfl (by decide) .tmp)) ⟨rfl, trivial⟩ rfl <| .cons (.plain rfl (c_move rfl rfl (by decide) .tmp)) ⟨rfl, trivial⟩ rfl <| .cons (.plain rfl (k_sliceHM (f := e3) (i := Try.t3) hv7 rfl (fun _ => rfl) rfl rfl (by decide) Try.underlying42 i3 (.tree .tmp) .tmp .tmp)) ⟨rfl, rfl, rfl, trivial⟩ rfl <| .cons (.plain rfl (c_build rfl rfl (by decide) Try.underlying51 i51 rfl rfl rfl rfl (.c1 .tmp .nil) rfl)) ⟨rfl, trivial⟩ rfl <| .cons (.plain rfl (k_indexRow (f := e51) (i := Try.t51) hv8 rfl rfl rfl (by decide) Try.underlying30 i51 .tmp .tmp)) ⟨rfl, rfl, rfl, trivial⟩ rfl <| .cons (.plain rfl (k_setRowN (f := e51) (new := (0, v7)) (ts := [.v (.int .i64 0), .sl (v7.map e3)]) hv8 (show 0 + 2 ≤ 2 by decide) rfl rfl rfl i51 rfl .tmp (.le .tmp (.agg (.cons .refl (.cons .tight .nil)))))) ⟨rfl, rfl, rfl, trivial⟩ rfl <| .nil) rfl rfl ?_
  show AW _ _ _ _ _
  refine aw_seq ?_
  obtain ⟨v9, hv9, h⟩ := bind_some h
  refine aw_region (.cons (.plain rfl (k_fieldP 22 0 rfl rfl (by decide) Try.underlying33 rfl i22 (by decide) .tmp)) ⟨rfl, trivial⟩ rfl <| .cons (.plain rfl (c_loadCell rfl rfl (by decide) Try.isAgg22 .tmp)) ⟨rfl, rfl, trivial⟩ rfl <| .cons (.plain rfl (c_move rfl rfl (by decide) .tmp)) ⟨rfl, trivial⟩ rfl <| .cons (.plain rfl (c_call (ins := [.one (.t (.sl (p0_0.map e57))), .one (.t (.v (.int .i64 p1)))]) (caps := []) rfl rfl rfl (by decide) .clo (dist_Node_calls _ _ _ hv9) (.cons .tmp (.cons .tmp .nil)) rfl rfl)) ⟨rfl, rfl, trivial⟩ rfl <| .cons (.plain rfl (c_assign rfl rfl (by decide) .tmp)) ⟨rfl, trivial⟩ rfl <| .nil) ?_
  show AW _ _ _ _ _
  refine aw_seq ?_
  obtain ⟨v10, hv10, h⟩ := bind_some h
  obtain ⟨v11, hv11, h⟩ := bind_some h
  obtain ⟨v12, hv12, h⟩ := bind_some h
  obtain ⟨v13, hv13, h⟩ := bind_some h
  refine aw_region_draw mixed (.cons (.plain rfl (k_fieldP 24 3 rfl rfl (by decide) Try.underlying33 rfl i24 (by decide) .tmp)) ⟨rfl, trivial⟩ rfl <| .cons (.plain rfl (c_loadCell rfl rfl (by decide) Try.isAgg24 .tmp)) ⟨rfl, rfl, trivial⟩ rfl <| .cons (.plain rfl (c_move rfl rfl (by decide) .tmp)) ⟨rfl, trivial⟩ rfl <| .cons (.plain rfl (k_fieldP 24 3 rfl rfl (by decide) Try.underlying33 rfl i24 (by decide) .tmp)) ⟨rfl, trivial⟩ rfl <| .cons (.plain rfl (c_loadCell rfl rfl (by decide) Try.isAgg24 .tmp)) ⟨rfl, rfl, trivial⟩ rfl <| .cons (.plain rfl (c_move rfl rfl (by decide) .tmp)) ⟨rfl, trivial⟩ rfl <| .cons (.plain rfl (k_indexRow (f := e42) (i := Try.t42) hv10 rfl rfl rfl (by decide) Try.underlying24 i42 .tmp .tmp)) ⟨rfl, rfl, rfl, trivial⟩ rfl <| .cons (.plain rfl (c_loadRow rfl rfl (by decide) Try.isAgg42 .tmp (at_get (f := e42) hv10) rfl)) ⟨rfl, rfl, trivial⟩ rfl <| .cons (.plain rfl (c_move rfl rfl (by decide) .tmp)) ⟨rfl, trivial⟩ rfl <| .cons (.plain rfl (c_move rfl rfl (by decide) .tmp)) ⟨rfl, trivial⟩ rfl <| .cons (.plain rfl (k_sliceL (f := e3) (i := Try.t3) hv11 (fun _ => rfl) rfl rfl (by decide) Try.underlying42 i3 (.tree .tmp) .tmp)) ⟨rfl, rfl, trivial⟩ rfl <| .cons (.plain rfl (.frozen (by simp) (c_buildSlice (sz := 1) (es := [v10, v11].map e42) rfl rfl (by decide) Try.underlying24 i42 rfl rfl rfl rfl (by decide) (.c1 .tmp (.c1 .tmp .nil)) rfl (emb_len (f := e42) (n := 1) (fun _ => rfl) _) (by decide)))) ⟨rfl, rfl, trivial⟩ rfl <| .cons (.plain rfl (c_call (ins := [.one (.t (.sl ([v10, v11].map e42)))]) (caps := []) rfl rfl rfl (by decide) .clo (slices_Concat_int_calls _ _ hv12) (.cons .tmp .nil) rfl rfl)) ⟨rfl, trivial⟩ rfl <| .cons (.plain rfl (k_indexRow (f := e42) (i := Try.t42) hv13 rfl rfl rfl (by decide) Try.underlying24 i42 .tmp .tmp)) ⟨rfl, rfl, rfl, trivial⟩ rfl <| .cons (.plain rfl (k_setRow1 (f := e42) (new := v12) hv13 (show 0 < 1 by decide) rfl rfl rfl i42 rfl .tmp .tmp)) ⟨rfl, rfl, rfl, trivial⟩ rfl <| .nil) rfl rfl ?_
  show AW _ _ _ _ _
  refine aw_seq ?_
  obtain ⟨v14, hv14, h⟩ := bind_some h
  obtain ⟨v15, hv15, h⟩ := bind_some h
  refine aw_region_draw mixed (.cons (.plain rfl (c_loadBox (cs := [.t (.sl (p0_0.map e57)), .t (.v (.int .i64 p0_1)), .row 25, .row 28, .t (.v (.int .u64 p0_4))]) rfl rfl (by decide) Try.isAgg33 i33 rfl .tmp)) ⟨rfl, rfl, rfl, rfl, rfl, rfl, trivial⟩ rfl <| .cons (.plain rfl (c_move rfl rfl (by decide) .tmp)) ⟨rfl, trivial⟩ rfl <| .cons (.plain rfl (k_index (f := e3) (i := Try.t3) hv14 rfl rfl rfl (by decide) Try.underlying42 i3 .tmp (.const rfl))) ⟨rfl, trivial⟩ rfl <| .cons (.plain rfl (c_loadTree rfl rfl (by decide) Try.isAgg3 .tmp rfl)) ⟨rfl, trivial⟩ rfl <| .cons (.plain rfl (k_fieldP 22 0 rfl rfl (by decide) Try.underlying33 rfl i22 (by decide) .tmp)) ⟨rfl, trivial⟩ rfl <| .cons (.plain rfl (c_loadCell rfl rfl (by decide) Try.isAgg22 .tmp)) ⟨rfl, rfl, trivial⟩ rfl <| .cons (.plain rfl (c_move rfl rfl (by decide) .tmp)) ⟨rfl, trivial⟩ rfl <| .cons (.plain rfl (c_move rfl rfl (by decide) .tmp)) ⟨rfl, trivial⟩ rfl <| .cons (.plain rfl (c_call (ins := [.one (.t (.sl (p0_0.map e57))), .one (.t (.v (.int .i64 p1))), .one (.t (.v (.int .i64 p2)))]) (caps := []) rfl rfl rfl (by decide) .clo (dist_Far_calls _ _ _ _ hv15) (.cons .tmp (.cons .tmp (.cons .tmp .nil))) rfl rfl)) ⟨rfl, rfl, rfl, trivial⟩ rfl <| .cons (.plain rfl (c_storeBox (cs0 := [.t (.v (.slice none 0 0)), .t (.v (.int .i64 0)), .t (.v (.slice none 0 0)), .t (.v (.slice none 0 0)), .t (.v (.int .u64 0))]) (cs := [.t (.sl (p0_0.map e57)), .t (.v (.int .i64 p0_1)), .row 25, .row 28, .t (.v (.int .u64 p0_4))]) rfl rfl i33 rfl rfl .tmp .tmp)) ⟨rfl, rfl, rfl, rfl, rfl, rfl, rfl, trivial⟩ rfl <| .cons (.plain rfl (c_assign rfl rfl (by decide) .tmp)) ⟨rfl, trivial⟩ rfl <| .cons (.plain rfl (c_assign rfl rfl (by decide) .tmp)) ⟨rfl, trivial⟩ rfl <| .nil) rfl rfl ?_
  show AW _ _ _ _ _
  refine aw_goes (σ' := [(.tmp 6, .m (.one (.ptr 6 0))), (.tmp 7, .m (.one (.t (.v (.int .i64 v14))))), (.tmp 8, .m (.one (.t (.v (.int .i64 v15))))), (.cell 6 0, .c (.t (.sl (p0_0.map e57)))), (.cell 6 1, .c (.t (.v (.int .i64 p0_1)))), (.cell 6 2, .c (.t (.sl ((set_ (set_ v3 p2 ((v2.1, v2.2.1))) p1 ((0, v7))).map e51)))), (.cell 6 3, .c (.t (.sl ((set_ v4 v9 v12).map e42)))), (.cell 6 4, .c (.t (.v (.int .u64 p0_4))))]) (Goes.trans (Goes.freezeRow (n := 25) rfl) (Goes.trans (Goes.freezeRow (n := 28) rfl) (Goes.into [(6, 6)] ⟨rfl, rfl, .refl, .refl, .refl, .refl, .refl, .refl, .refl, .refl, trivial⟩))) ?_
  refine aw_ret ?_
  obtain rfl := Option.some.inj h
  exact ⟨.inr rfl, _, [], (.cellAgg (cs := [.t (.sl (p0_0.map e57)), .t (.v (.int .i64 p0_1)), .t (.sl ((set_ (set_ v3 p2 ((v2.1, v2.2.1))) p1 ((0, v7))).map e51)), .t (.sl ((set_ v4 v9 v12).map e42)), .t (.v (.int .u64 p0_4))]) rfl Try.isAgg33 i33 rfl ⟨rfl, rfl, rfl, rfl, rfl, trivial⟩ (.tmp rfl (.tmp rfl .nil))), rfl, rfl, rfl, ⟨rfl, rfl, trivial⟩⟩

def steal_row_L1 (p0_0 : List (Int × Int)) (p0_1 : Int) (p0_2 : List (Int × (List (Int)))) (p0_3 : List ((List (Int)))) (p0_4 : Int) (v1 : Int) (v18 : Int) : Option (Int ⊕ (Unit ⊕ ((List (Int × Int)) × Int × (List (Int × (List (Int)))) × (List ((List (Int)))) × Int × Int × Int))) := bif decide (v18 < (p0_3.length : Int)) then (need ((p0_3.length : Int) ≠ 0)).bind fun v20 => (at_ p0_3 ((wi64 (v1 + v18)).tmod ((p0_3.length : Int)))).bind fun v21 => bif decide (0 < (v21.length : Int)) then (slices_Clone_Lint p0_3).bind fun v22 => (drop_ v21 1).bind fun v23 => (slices_Clone_int v23).bind fun v24 => (at_ v22 ((wi64 (v1 + v18)).tmod ((p0_3.length : Int)))).bind fun v25 => (at_ v21 0).bind fun v26 => some (.inr (.inr ((p0_0, p0_1, p0_2, set_ v22 ((wi64 (v1 + v18)).tmod ((p0_3.length : Int))) v24, p0_4, v26, 3)))) else some (.inl (wi64 (v18 + 1))) else some (.inr (.inl (())))
def steal_row (p0_0 : List (Int × Int)) (p0_1 : Int) (p0_2 : List (Int × (List (Int)))) (p0_3 : List ((List (Int)))) (p0_4 : Int) (p1 : Int) : Option (((List (Int × Int)) × Int × (List (Int × (List (Int)))) × (List ((List (Int)))) × Int × Int × Int)) := (dist_Node p0_0 p1).bind fun v1 => (loopO (steal_row_L1 p0_0 p0_1 p0_2 p0_3 p0_4 v1) fuel 1).bind fun s => s.elim (fun v19 => some ((p0_0, p0_1, p0_2, p0_3, p0_4, 0, (-1)))) (fun j : ((List (Int × Int)) × Int × (List (Int × (List (Int)))) × (List ((List (Int)))) × Int × Int × Int) => some j)
theorem steal_row_calls (p0_0 : List (Int × Int)) (p0_1 : Int) (p0_2 : List (Int × (List (Int)))) (p0_3 : List ((List (Int)))) (p0_4 : Int) (p1 : Int) (r : ((List (Int × Int)) × Int × (List (Int × (List (Int)))) × (List ((List (Int)))) × Int × Int × Int)) (h : steal_row p0_0 p0_1 p0_2 p0_3 p0_4 p1 = some r) : ACalls Try.prog 30 [.agg [.t (.sl (p0_0.map e57)), .t (.v (.int .i64 p0_1)), .t (.sl (p0_2.map e51)), .t (.sl (p0_3.map e42)), .t (.v (.int .u64 p0_4))], .one (.t (.v (.int .i64 p1)))] [] (.tup [(true, [.t (.sl (r.1.map e57)), .t (.v (.int .i64 r.2.1)), .t (.sl (r.2.2.1.map e51)), .t (.sl (r.2.2.2.1.map e42)), .t (.v (.int .u64 r.2.2.2.2.1))]), (false, [.t (.v (.int .i64 r.2.2.2.2.2.1))]), (false, [.t (.v (.int .i64 r.2.2.2.2.2.2))])]) [] := by
  unfold steal_row at h
  refine acalls_of_AW Try.func30 rfl Try.call30 (by decide) (show 2 ≤ 53 by decide) rfl rfl ?_
  refine aw_seq ?_
  refine aw_region (.cons (.plain rfl (k_boxN rfl rfl (by decide) .tmp rfl)) ⟨rfl, trivial⟩ rfl <| .cons (.plain rfl (c_alloc rfl rfl (by decide) i33 rfl rfl rfl)) trivial rfl <| .cons (.plain rfl (c_assign rfl rfl (by decide) (.const rfl))) trivial rfl <| .cons (.plain rfl (c_assign rfl rfl (by decide) (.const rfl))) trivial rfl <| .nil) ?_
  show AW _ _ _ _ _
  refine aw_seq ?_
  obtain ⟨v1, hv1, h⟩ := bind_some h
  refine aw_region_draw mixed (.cons (.plain rfl (k_fieldP 24 3 rfl rfl (by decide) Try.underlying33 rfl i24 (by decide) .tmp)) ⟨rfl, trivial⟩ rfl <| .cons (.plain rfl (c_loadCell rfl rfl (by decide) Try.isAgg24 .tmp)) ⟨rfl, rfl, trivial⟩ rfl <| .cons (.plain rfl (k_len (i := Try.t42) (l := p0_3) (f := e42) (fun _ => rfl) (by decide) rfl rfl (by decide) Try.underlying24 (src_tree (f := e42) (fun _ => rfl) (by decide) .tmp))) ⟨rfl, trivial⟩ rfl <| .cons (.plain rfl (k_fieldP 22 0 rfl rfl (by decide) Try.underlying33 rfl i22 (by decide) .tmp)) ⟨rfl, trivial⟩ rfl <| .cons (.plain rfl (c_loadCell rfl rfl (by decide) Try.isAgg22 .tmp)) ⟨rfl, rfl, trivial⟩ rfl <| .cons (.plain rfl (c_move rfl rfl (by decide) .tmp)) ⟨rfl, trivial⟩ rfl <| .cons (.plain rfl (c_call (ins := [.one (.t (.sl (p0_0.map e57))), .one (.t (.v (.int .i64 p1)))]) (caps := []) rfl rfl rfl (by decide) .clo (dist_Node_calls _ _ _ hv1) (.cons .tmp (.cons .tmp .nil)) rfl rfl)) ⟨rfl, rfl, trivial⟩ rfl <| .cons (.plain rfl (c_assign rfl rfl (by decide) .tmp)) ⟨rfl, trivial⟩ rfl <| .cons (.plain rfl (c_assign rfl rfl (by decide) .tmp)) ⟨rfl, trivial⟩ rfl <| .nil) rfl rfl ?_
  show AW _ _ _ _ _
  refine aw_seq ?_
  refine aw_seq ?_
  refine aw_region (.cons (.plain rfl (c_assign rfl rfl (by decide) (.const rfl))) trivial rfl <| .nil) ?_
  show AW _ _ _ _ _
  refine aw_loopJ (fun v18 : Int => [(.tmp 2, .m (.one (.ptr 2 0))), (.tmp 4, .m (.one (.ptr 4 0))), (.tmp 7, .m (.one (.t (.v (.int .i64 ((p0_3.length : Int))))))), (.tmp 8, .m (.one (.t (.v (.int .i64 v1))))), (.tmp 9, .m (.one (.t (.v (.int .i64 v18))))), (.cell 2 0, .c (.t (.sl (p0_0.map e57)))), (.cell 2 1, .c (.t (.v (.int .i64 p0_1)))), (.cell 2 2, .c (.t (.sl (p0_2.map e51)))), (.cell 2 3, .c (.t (.sl (p0_3.map e42)))), (.cell 2 4, .c (.t (.v (.int .u64 p0_4)))), (.cell 4 0, .c (.t (.v (.slice none 0 0)))), (.cell 4 1, .c (.t (.v (.int .i64 0)))), (.cell 4 2, .c (.t (.v (.slice none 0 0)))), (.cell 4 3, .c (.t (.v (.slice none 0 0)))), (.cell 4 4, .c (.t (.v (.int .u64 0))))]) (fun v19 : Unit => [(.tmp 2, .m (.one (.ptr 2 0))), (.tmp 4, .m (.one (.ptr 4 0))), (.cell 2 0, .c (.t (.sl (p0_0.map e57)))), (.cell 2 1, .c (.t (.v (.int .i64 p0_1)))), (.cell 2 2, .c (.t (.sl (p0_2.map e51)))), (.cell 2 3, .c (.t (.sl (p0_3.map e42)))), (.cell 2 4, .c (.t (.v (.int .u64 p0_4)))), (.cell 4 0, .c (.t (.v (.slice none 0 0)))), (.cell 4 1, .c (.t (.v (.int .i64 0)))), (.cell 4 2, .c (.t (.v (.slice none 0 0)))), (.cell 4 3, .c (.t (.v (.slice none 0 0)))), (.cell 4 4, .c (.t (.v (.int .u64 0))))]) h (Goes.into [(2, 2), (4, 4)] ⟨rfl, rfl, .refl, .refl, .refl, .refl, .refl, .refl, .refl, .refl, .refl, .refl, .refl, .refl, .refl, .refl, .refl, trivial⟩) (fun v18 _ h => ?_) (fun v19 h => ?_)
  · unfold steal_row_L1 at h
    refine aw_seq ?_
    refine aw_seq ?_
    refine aw_region (.cons (.plain rfl (c_move rfl rfl (by decide) .tmp)) ⟨rfl, trivial⟩ rfl <| .cons (.plain rfl (c_move rfl rfl (by decide) .tmp)) ⟨rfl, trivial⟩ rfl <| .cons (.plain rfl (c_lss rfl rfl (by decide) .tmp .tmp)) ⟨rfl, rfl, trivial⟩ rfl <| .nil) ?_
    show AW _ _ _ _ _
    refine aw_cond .tmp ⟨rfl, trivial⟩ (fun hc5 => ?_) (fun hc5 => ?_)
    · have h := of_true hc5 h
      refine aw_skip ?_
      show AW _ _ _ _ _
      refine aw_seq ?_
      refine aw_block ?_
      refine aw_seq ?_
      obtain ⟨v20, hv20, h⟩ := bind_some h
      refine aw_region (.cons (.plain rfl (c_move rfl rfl (by decide) .tmp)) ⟨rfl, trivial⟩ rfl <| .cons (.plain rfl (c_move rfl rfl (by decide) .tmp)) ⟨rfl, trivial⟩ rfl <| .cons (.plain rfl (c_add rfl rfl (by decide) .tmp .tmp)) ⟨rfl, rfl, trivial⟩ rfl <| .cons (.plain rfl (c_move rfl rfl (by decide) .tmp)) ⟨rfl, trivial⟩ rfl <| .cons (.plain rfl (c_rem (need_of hv20) rfl rfl (by decide) .tmp .tmp)) ⟨rfl, rfl, trivial⟩ rfl <| .cons (.plain rfl (c_assign rfl rfl (by decide) .tmp)) ⟨rfl, trivial⟩ rfl <| .nil) ?_
      show AW _ _ _ _ _
      refine aw_seq ?_
      obtain ⟨v21, hv21, h⟩ := bind_some h
      refine aw_region (.cons (.plain rfl (k_fieldP 24 3 rfl rfl (by decide) Try.underlying33 rfl i24 (by decide) .tmp)) ⟨rfl, trivial⟩ rfl <| .cons (.plain rfl (c_loadCell rfl rfl (by decide) Try.isAgg24 .tmp)) ⟨rfl, rfl, trivial⟩ rfl <| .cons (.plain rfl (c_move rfl rfl (by decide) .tmp)) ⟨rfl, trivial⟩ rfl <| .cons (.plain rfl (k_index (f := e42) (i := Try.t42) hv21 rfl rfl rfl (by decide) Try.underlying24 i42 .tmp .tmp)) ⟨rfl, rfl, trivial⟩ rfl <| .cons (.plain rfl (c_loadTree rfl rfl (by decide) Try.isAgg42 .tmp rfl)) ⟨rfl, trivial⟩ rfl <| .cons (.plain rfl (c_assign rfl rfl (by decide) .tmp)) ⟨rfl, trivial⟩ rfl <| .nil) ?_
      show AW _ _ _ _ _
      refine aw_seq ?_
      refine aw_region (.cons (.plain rfl (c_move rfl rfl (by decide) .tmp)) ⟨rfl, trivial⟩ rfl <| .cons (.plain rfl (k_len (i := Try.t3) (l := v21) (f := e3) (fun _ => rfl) (by decide) rfl rfl (by decide) Try.underlying42 (src_tree (f := e3) (fun _ => rfl) (by decide) .tmp))) ⟨rfl, trivial⟩ rfl <| .cons (.plain rfl (c_gtr rfl rfl (by decide) .tmp (.const rfl))) ⟨rfl, trivial⟩ rfl <| .nil) ?_
      show AW _ _ _ _ _
      refine aw_cond .tmp ⟨rfl, trivial⟩ (fun hc6 => ?_) (fun hc6 => ?_)
      · have h := of_true hc6 h
        refine aw_seq ?_
        obtain ⟨v22, hv22, h⟩ := bind_some h
        refine aw_region (.cons (.plain rfl (k_fieldP 24 3 rfl rfl (by decide) Try.underlying33 rfl i24 (by decide) .tmp)) ⟨rfl, trivial⟩ rfl <| .cons (.plain rfl (c_loadCell rfl rfl (by decide) Try.isAgg24 .tmp)) ⟨rfl, rfl, trivial⟩ rfl <| .cons (.plain rfl (c_callNew (out' := .one (.row 39)) (post' := [(.row 39, .r 42 1 (v22.map e42))]) (qs := [(39, 2000000)]) (nw := [39]) rfl rfl rfl (by decide) (slices_Clone_Lint_row _ _ hv22) (.cons .tmp .nil) rfl rfl rfl rfl rfl ⟨.refl, trivial⟩ rfl rfl rfl)) ⟨rfl, trivial⟩ rfl <| .cons (.plain rfl (k_fieldP 24 3 rfl rfl (by decide) Try.underlying33 rfl i24 (by decide) .tmp)) ⟨rfl, trivial⟩ rfl <| .cons (.plain rfl (c_store rfl rfl i24 rfl .tmp .tmp)) ⟨rfl, rfl, rfl, trivial⟩ rfl <| .nil) ?_
        show AW _ _ _ _ _
        refine aw_seq ?_
        obtain ⟨v23, hv23, h⟩ := bind_some h
        obtain ⟨v24, hv24, h⟩ := bind_some h
        obtain ⟨v25, hv25, h⟩ := bind_some h
        refine aw_region_draw mixed (.cons (.plain rfl (k_fieldP 24 3 rfl rfl (by decide) Try.underlying33 rfl i24 (by decide) .tmp)) ⟨rfl, trivial⟩ rfl <| .cons (.plain rfl (c_loadCell rfl rfl (by decide) Try.isAgg24 .tmp)) ⟨rfl, rfl, trivial⟩ rfl <| .cons (.plain rfl (c_move rfl rfl (by decide) .tmp)) ⟨rfl, trivial⟩ rfl <| .cons (.plain rfl (c_move rfl rfl (by decide) .tmp)) ⟨rfl, trivial⟩ rfl <| .cons (.plain rfl (k_sliceL (f := e3) (i := Try.t3) hv23 (fun _ => rfl) rfl rfl (by decide) Try.underlying42 i3 (.tree .tmp) (.const rfl))) ⟨rfl, trivial⟩ rfl <| .cons (.plain rfl (c_call (ins := [.one (.t (.sl (v23.map e3)))]) (caps := []) rfl rfl rfl (by decide) .clo (slices_Clone_int_calls _ _ hv24) (.cons .tmp .nil) rfl rfl)) ⟨rfl, trivial⟩ rfl <| .cons (.plain rfl (k_indexRow (f := e42) (i := Try.t42) hv25 rfl rfl rfl (by decide) Try.underlying24 i42 .tmp .tmp)) ⟨rfl, rfl, rfl, trivial⟩ rfl <| .cons (.plain rfl (k_setRow1 (f := e42) (new := v24) hv25 (show 0 < 1 by decide) rfl rfl rfl i42 rfl .tmp .tmp)) ⟨rfl, rfl, rfl, trivial⟩ rfl <| .nil) rfl rfl ?_
        show AW _ _ _ _ _
        refine aw_seq ?_
        obtain ⟨v26, hv26, h⟩ := bind_some h
        refine aw_region_draw mixed (.cons (.plain rfl (c_loadBox (cs := [.t (.sl (p0_0.map e57)), .t (.v (.int .i64 p0_1)), .t (.sl (p0_2.map e51)), .row 39, .t (.v (.int .u64 p0_4))]) rfl rfl (by decide) Try.isAgg33 i33 rfl .tmp)) ⟨rfl, rfl, rfl, rfl, rfl, rfl, trivial⟩ rfl <| .cons (.plain rfl (c_move rfl rfl (by decide) .tmp)) ⟨rfl, trivial⟩ rfl <| .cons (.plain rfl (k_index (f := e3) (i := Try.t3) hv26 rfl rfl rfl (by decide) Try.underlying42 i3 .tmp (.const rfl))) ⟨rfl, trivial⟩ rfl <| .cons (.plain rfl (c_loadTree rfl rfl (by decide) Try.isAgg3 .tmp rfl)) ⟨rfl, trivial⟩ rfl <| .cons (.plain rfl (c_storeBox (cs0 := [.t (.v (.slice none 0 0)), .t (.v (.int .i64 0)), .t (.v (.slice none 0 0)), .t (.v (.slice none 0 0)), .t (.v (.int .u64 0))]) (cs := [.t (.sl (p0_0.map e57)), .t (.v (.int .i64 p0_1)), .t (.sl (p0_2.map e51)), .row 39, .t (.v (.int .u64 p0_4))]) rfl rfl i33 rfl rfl .tmp .tmp)) ⟨rfl, rfl, rfl, rfl, rfl, rfl, rfl, trivial⟩ rfl <| .cons (.plain rfl (c_assign rfl rfl (by decide) .tmp)) ⟨rfl, trivial⟩ rfl <| .cons (.plain rfl (c_assign rfl rfl (by decide) (.const rfl))) trivial rfl <| .nil) rfl rfl ?_
        show AW _ _ _ _ _
        refine aw_goes (σ' := [(.tmp 4, .m (.one (.ptr 4 0))), (.tmp 5, .m (.one (.t (.v (.int .i64 v26))))), (.tmp 6, .m (.one (.t (.v (.int .i64 3))))), (.cell 4 0, .c (.t (.sl (p0_0.map e57)))), (.cell 4 1, .c (.t (.v (.int .i64 p0_1)))), (.cell 4 2, .c (.t (.sl (p0_2.map e51)))), (.cell 4 3, .c (.t (.sl ((set_ v22 ((wi64 (v1 + v18)).tmod ((p0_3.length : Int))) v24).map e42)))), (.cell 4 4, .c (.t (.v (.int .u64 p0_4))))]) (Goes.trans (Goes.freezeRow (n := 39) rfl) (Goes.into [(4, 4)] ⟨rfl, rfl, .refl, .refl, .refl, .refl, .refl, .refl, .refl, .refl, trivial⟩)) ?_
        refine aw_ret ?_
        obtain rfl := Option.some.inj h
        refine ⟨_, rfl, fun h => ?_⟩
        obtain rfl := Option.some.inj h
        exact ⟨.inr rfl, _, [], (.cellAgg (cs := [.t (.sl (p0_0.map e57)), .t (.v (.int .i64 p0_1)), .t (.sl (p0_2.map e51)), .t (.sl ((set_ v22 ((wi64 (v1 + v18)).tmod ((p0_3.length : Int))) v24).map e42)), .t (.v (.int .u64 p0_4))]) rfl Try.isAgg33 i33 rfl ⟨rfl, rfl, rfl, rfl, rfl, trivial⟩ (.tmp rfl (.tmp rfl .nil))), rfl, rfl, rfl, ⟨rfl, rfl, trivial⟩⟩
      · have h := of_false hc6 h
        refine aw_skip ?_
        show AW _ _ _ _ _
        refine aw_region (.cons (.plain rfl (c_move rfl rfl (by decide) .tmp)) ⟨rfl, trivial⟩ rfl <| .cons (.plain rfl (c_add rfl rfl (by decide) .tmp (.const rfl))) ⟨rfl, trivial⟩ rfl <| .cons (.plain rfl (c_assign rfl rfl (by decide) .tmp)) ⟨rfl, trivial⟩ rfl <| .nil) ?_
        obtain rfl := Option.some.inj h
        exact ⟨_, rfl, (Goes.into [(2, 2), (4, 4)] ⟨rfl, rfl, .refl, .refl, .refl, .refl, .refl, .refl, .refl, .refl, .refl, .refl, .refl, .refl, .refl, .refl, .refl, trivial⟩)⟩
    · have h := of_false hc5 h
      refine aw_exit ?_
      obtain rfl := Option.some.inj h
      exact ⟨_, rfl, (Goes.into [(2, 2), (4, 4)] ⟨rfl, rfl, .refl, .refl, .refl, .refl, .refl, .refl, .refl, .refl, .refl, .refl, .refl, .refl, trivial⟩)⟩
  · show AW _ _ _ _ _
    refine aw_seq ?_
    refine aw_region (.cons (.plain rfl (c_loadBox (cs := [.t (.sl (p0_0.map e57)), .t (.v (.int .i64 p0_1)), .t (.sl (p0_2.map e51)), .t (.sl (p0_3.map e42)), .t (.v (.int .u64 p0_4))]) rfl rfl (by decide) Try.isAgg33 i33 rfl .tmp)) ⟨rfl, rfl, rfl, rfl, rfl, rfl, trivial⟩ rfl <| .cons (.plain rfl (c_storeBox (cs0 := [.t (.v (.slice none 0 0)), .t (.v (.int .i64 0)), .t (.v (.slice none 0 0)), .t (.v (.slice none 0 0)), .t (.v (.int .u64 0))]) (cs := [.t (.sl (p0_0.map e57)), .t (.v (.int .i64 p0_1)), .t (.sl (p0_2.map e51)), .t (.sl (p0_3.map e42)), .t (.v (.int .u64 p0_4))]) rfl rfl i33 rfl rfl .tmp .tmp)) ⟨rfl, rfl, rfl, rfl, rfl, rfl, rfl, trivial⟩ rfl <| .cons (.plain rfl (c_assign rfl rfl (by decide) (.const rfl))) trivial rfl <| .cons (.plain rfl (c_assign rfl rfl (by decide) (.const rfl))) trivial rfl <| .nil) ?_
    show AW _ _ _ _ _
    refine aw_goes (σ' := [(.tmp 4, .m (.one (.ptr 4 0))), (.tmp 5, .m (.one (.t (.v (.int .i64 0))))), (.tmp 6, .m (.one (.t (.v (.int .i64 ((-1))))))), (.cell 4 0, .c (.t (.sl (p0_0.map e57)))), (.cell 4 1, .c (.t (.v (.int .i64 p0_1)))), (.cell 4 2, .c (.t (.sl (p0_2.map e51)))), (.cell 4 3, .c (.t (.sl (p0_3.map e42)))), (.cell 4 4, .c (.t (.v (.int .u64 p0_4))))]) (Goes.into [(4, 4)] ⟨rfl, rfl, .refl, .refl, .refl, .refl, .refl, .refl, .refl, .refl, trivial⟩) ?_
    refine aw_ret ?_
    obtain rfl := Option.some.inj h
    exact ⟨.inr rfl, _, [], (.cellAgg (cs := [.t (.sl (p0_0.map e57)), .t (.v (.int .i64 p0_1)), .t (.sl (p0_2.map e51)), .t (.sl (p0_3.map e42)), .t (.v (.int .u64 p0_4))]) rfl Try.isAgg33 i33 rfl ⟨rfl, rfl, rfl, rfl, rfl, trivial⟩ (.tmp rfl (.tmp rfl .nil))), rfl, rfl, rfl, ⟨rfl, rfl, trivial⟩⟩

noncomputable def steal_Steal (p0_0 : List (Int × Int)) (p0_1 : Int) (p0_2 : List (Int × (List (Int)))) (p0_3 : List ((List (Int)))) (p0_4 : Int) (p1 : Int) (p2 : Int) : Option (((List (Int × Int)) × Int × (List (Int × (List (Int)))) × (List ((List (Int)))) × Int × Int × Int)) := ((runs_May p0_0 p0_1 p0_2 p0_3 p0_4).bind fun v3 => bif !v3 then some true else (bits_Set_Has p0_4 p1).bind fun v4 => some (!v4) : Option Bool).bind fun v5 => bif v5 then some ((p0_0, p0_1, p0_2, p0_3, p0_4, 0, (-1))) else (find_Local p0_0 p0_1 p0_2 p0_3 p0_4 p1 1).bind fun v6 => bif !decide (v6.2.2.2.2.2.1 = 0) then some ((p0_0, p0_1, p0_2, p0_3, p0_4, 0, (-1))) else (steal_Victims p0_0 p0_1 p0_2 p0_3 p0_4 p1 p2).bind fun v7 => bif decide (0 < (v7.length : Int)) then (at_ v7 0).bind fun v8 => (steal_take p0_0 p0_1 p0_2 p0_3 p0_4 p1 v8).bind fun v9 => some ((v9.1, v9.2.1, v9.2.2.1, v9.2.2.2.1, v9.2.2.2.2.1, v9.2.2.2.2.2.1, v9.2.2.2.2.2.2)) else bif decide (3 ≤ p2) then (steal_row p0_0 p0_1 p0_2 p0_3 p0_4 p1).bind fun v10 => some ((v10.1, v10.2.1, v10.2.2.1, v10.2.2.2.1, v10.2.2.2.2.1, v10.2.2.2.2.2.1, v10.2.2.2.2.2.2)) else some ((p0_0, p0_1, p0_2, p0_3, p0_4, 0, (-1)))
theorem steal_Steal_calls (p0_0 : List (Int × Int)) (p0_1 : Int) (p0_2 : List (Int × (List (Int)))) (p0_3 : List ((List (Int)))) (p0_4 : Int) (p1 : Int) (p2 : Int) (r : ((List (Int × Int)) × Int × (List (Int × (List (Int)))) × (List ((List (Int)))) × Int × Int × Int)) (h : steal_Steal p0_0 p0_1 p0_2 p0_3 p0_4 p1 p2 = some r) : ACalls Try.prog 12 [.agg [.t (.sl (p0_0.map e57)), .t (.v (.int .i64 p0_1)), .t (.sl (p0_2.map e51)), .t (.sl (p0_3.map e42)), .t (.v (.int .u64 p0_4))], .one (.t (.v (.int .i64 p1))), .one (.t (.v (.int .i64 p2)))] [] (.tup [(true, [.t (.sl (r.1.map e57)), .t (.v (.int .i64 r.2.1)), .t (.sl (r.2.2.1.map e51)), .t (.sl (r.2.2.2.1.map e42)), .t (.v (.int .u64 r.2.2.2.2.1))]), (false, [.t (.v (.int .i64 r.2.2.2.2.2.1))]), (false, [.t (.v (.int .i64 r.2.2.2.2.2.2))])]) [] := by
  unfold steal_Steal at h
  refine acalls_of_AW Try.func12 rfl Try.call12 (by decide) (show 3 ≤ 59 by decide) rfl rfl ?_
  refine aw_seq ?_
  refine aw_region (.cons (.plain rfl (k_boxN rfl rfl (by decide) .tmp rfl)) ⟨rfl, trivial⟩ rfl <| .cons (.plain rfl (c_alloc rfl rfl (by decide) i33 rfl rfl rfl)) trivial rfl <| .cons (.plain rfl (c_assign rfl rfl (by decide) (.const rfl))) trivial rfl <| .cons (.plain rfl (c_assign rfl rfl (by decide) (.const rfl))) trivial rfl <| .nil) ?_
  show AW _ _ _ _ _
  refine aw_seq ?_
  refine aw_seq ?_
  refine aw_cut0 (fun v5 : Bool => [(.tmp 1, .m (.one (.t (.v (.int .i64 p1))))), (.tmp 2, .m (.one (.t (.v (.int .i64 p2))))), (.tmp 3, .m (.one (.ptr 3 0))), (.tmp 6, .m (.one (.ptr 6 0))), (.tmp 22, .m (.one (.t (.v (.bool v5))))), (.cell 3 0, .c (.t (.sl (p0_0.map e57)))), (.cell 3 1, .c (.t (.v (.int .i64 p0_1)))), (.cell 3 2, .c (.t (.sl (p0_2.map e51)))), (.cell 3 3, .c (.t (.sl (p0_3.map e42)))), (.cell 3 4, .c (.t (.v (.int .u64 p0_4)))), (.cell 6 0, .c (.t (.v (.slice none 0 0)))), (.cell 6 1, .c (.t (.v (.int .i64 0)))), (.cell 6 2, .c (.t (.v (.slice none 0 0)))), (.cell 6 3, .c (.t (.v (.slice none 0 0)))), (.cell 6 4, .c (.t (.v (.int .u64 0))))]) h (fun _ h => ?_) (fun v5 h => ?_)
  · obtain ⟨v3, hv3, h⟩ := bind_some h
    cases hc2 : !v3 with
    | true =>
      have h := of_true hc2 h
      refine aw_region (.cons (.plain rfl (c_loadBox (cs := [.t (.sl (p0_0.map e57)), .t (.v (.int .i64 p0_1)), .t (.sl (p0_2.map e51)), .t (.sl (p0_3.map e42)), .t (.v (.int .u64 p0_4))]) rfl rfl (by decide) Try.isAgg33 i33 rfl .tmp)) ⟨rfl, rfl, rfl, rfl, rfl, rfl, trivial⟩ rfl <| .cons (.plain rfl (c_call (ins := [.agg [.t (.sl (p0_0.map e57)), .t (.v (.int .i64 p0_1)), .t (.sl (p0_2.map e51)), .t (.sl (p0_3.map e42)), .t (.v (.int .u64 p0_4))]]) (caps := []) rfl rfl rfl (by decide) .clo (runs_May_calls _ _ _ _ _ _ hv3) (.cons .tmp .nil) rfl rfl)) ⟨rfl, trivial⟩ rfl <| .cons (.plain rfl (c_not rfl rfl (by decide) .tmp)) ⟨rfl, trivial⟩ rfl <| .cons (.plain rfl (c_move rfl rfl (by decide) .tmp)) ⟨rfl, trivial⟩ rfl <| .cons (.off (b' := true) rfl rfl rfl rfl (by decide)) ⟨(congrArg mB hc2), trivial⟩ rfl <| .cons (.off (b' := true) rfl rfl rfl rfl (by decide)) ⟨(congrArg mB hc2), trivial⟩ rfl <| .cons (.off (b' := true) rfl rfl rfl rfl (by decide)) ⟨(congrArg mB hc2), trivial⟩ rfl <| .cons (.off (b' := true) rfl rfl rfl rfl (by decide)) ⟨(congrArg mB hc2), trivial⟩ rfl <| .cons (.off (b' := true) rfl rfl rfl rfl (by decide)) ⟨(congrArg mB hc2), trivial⟩ rfl <| .cons (.plain rfl (c_pick (b := true) rfl rfl (by decide) .tmp rfl (.const rfl))) ⟨(congrArg mB hc2), trivial⟩ rfl <| .nil) ?_
      obtain rfl := Option.some.inj h
      show Goes _ _
      exact (Goes.into [(3, 3), (6, 6)] ⟨rfl, rfl, .refl, .refl, .refl, .refl, .refl, .refl, .refl, .refl, .refl, .refl, .refl, .refl, .refl, .refl, .refl, trivial⟩)
    | false =>
      have h := of_false hc2 h
      obtain ⟨v4, hv4, h⟩ := bind_some h
      refine aw_region (.cons (.plain rfl (c_loadBox (cs := [.t (.sl (p0_0.map e57)), .t (.v (.int .i64 p0_1)), .t (.sl (p0_2.map e51)), .t (.sl (p0_3.map e42)), .t (.v (.int .u64 p0_4))]) rfl rfl (by decide) Try.isAgg33 i33 rfl .tmp)) ⟨rfl, rfl, rfl, rfl, rfl, rfl, trivial⟩ rfl <| .cons (.plain rfl (c_call (ins := [.agg [.t (.sl (p0_0.map e57)), .t (.v (.int .i64 p0_1)), .t (.sl (p0_2.map e51)), .t (.sl (p0_3.map e42)), .t (.v (.int .u64 p0_4))]]) (caps := []) rfl rfl rfl (by decide) .clo (runs_May_calls _ _ _ _ _ _ hv3) (.cons .tmp .nil) rfl rfl)) ⟨rfl, trivial⟩ rfl <| .cons (.plain rfl (c_not rfl rfl (by decide) .tmp)) ⟨rfl, trivial⟩ rfl <| .cons (.plain rfl (c_move rfl rfl (by decide) .tmp)) ⟨rfl, trivial⟩ rfl <| .cons (.on (t := 16) rfl rfl (k_fieldP 31 4 rfl rfl (by decide) Try.underlying33 rfl i31 (by decide) .tmp)) ⟨(congrArg mB hc2), rfl, trivial⟩ rfl <| .cons (.on (t := 16) rfl rfl (c_loadCell rfl rfl (by decide) Try.isAgg31 .tmp)) ⟨(congrArg mB hc2), rfl, rfl, trivial⟩ rfl <| .cons (.on (t := 16) rfl rfl (c_move rfl rfl (by decide) .tmp)) ⟨(congrArg mB hc2), rfl, trivial⟩ rfl <| .cons (.on (t := 16) rfl rfl (c_call (ins := [.one (.t (.v (.int .u64 p0_4))), .one (.t (.v (.int .i64 p1)))]) (caps := []) rfl rfl rfl (by decide) .clo (bits_Set_Has_calls _ _ _ hv4) (.cons .tmp (.cons .tmp .nil)) rfl rfl)) ⟨(congrArg mB hc2), rfl, rfl, trivial⟩ rfl <| .cons (.on (t := 16) rfl rfl (c_not rfl rfl (by decide) .tmp)) ⟨(congrArg mB hc2), rfl, trivial⟩ rfl <| .cons (.plain rfl (c_pick (b := false) rfl rfl (by decide) .tmp rfl .tmp)) ⟨(congrArg mB hc2), rfl, trivial⟩ rfl <| .nil) ?_
      obtain rfl := Option.some.inj h
      show Goes _ _
      exact (Goes.into [(3, 3), (6, 6)] ⟨rfl, rfl, .refl, .refl, .refl, .refl, .refl, .refl, .refl, .refl, .refl, .refl, .refl, .refl, .refl, .refl, .refl, trivial⟩)
  · show AW _ _ _ _ _
    refine aw_cond .tmp ⟨rfl, trivial⟩ (fun hc3 => ?_) (fun hc3 => ?_)
    · have h := of_true hc3 h
      refine aw_seq ?_
      refine aw_region (.cons (.plain rfl (c_loadBox (cs := [.t (.sl (p0_0.map e57)), .t (.v (.int .i64 p0_1)), .t (.sl (p0_2.map e51)), .t (.sl (p0_3.map e42)), .t (.v (.int .u64 p0_4))]) rfl rfl (by decide) Try.isAgg33 i33 rfl .tmp)) ⟨rfl, rfl, rfl, rfl, rfl, rfl, trivial⟩ rfl <| .cons (.plain rfl (c_storeBox (cs0 := [.t (.v (.slice none 0 0)), .t (.v (.int .i64 0)), .t (.v (.slice none 0 0)), .t (.v (.slice none 0 0)), .t (.v (.int .u64 0))]) (cs := [.t (.sl (p0_0.map e57)), .t (.v (.int .i64 p0_1)), .t (.sl (p0_2.map e51)), .t (.sl (p0_3.map e42)), .t (.v (.int .u64 p0_4))]) rfl rfl i33 rfl rfl .tmp .tmp)) ⟨rfl, rfl, rfl, rfl, rfl, rfl, rfl, trivial⟩ rfl <| .cons (.plain rfl (c_assign rfl rfl (by decide) (.const rfl))) trivial rfl <| .cons (.plain rfl (c_assign rfl rfl (by decide) (.const rfl))) trivial rfl <| .nil) ?_
      show AW _ _ _ _ _
      refine aw_goes (σ' := [(.tmp 6, .m (.one (.ptr 6 0))), (.tmp 7, .m (.one (.t (.v (.int .i64 0))))), (.tmp 8, .m (.one (.t (.v (.int .i64 ((-1))))))), (.cell 6 0, .c (.t (.sl (p0_0.map e57)))), (.cell 6 1, .c (.t (.v (.int .i64 p0_1)))), (.cell 6 2, .c (.t (.sl (p0_2.map e51)))), (.cell 6 3, .c (.t (.sl (p0_3.map e42)))), (.cell 6 4, .c (.t (.v (.int .u64 p0_4))))]) (Goes.into [(6, 6)] ⟨rfl, rfl, .refl, .refl, .refl, .refl, .refl, .refl, .refl, .refl, trivial⟩) ?_
      refine aw_ret ?_
      obtain rfl := Option.some.inj h
      exact ⟨.inr rfl, _, [], (.cellAgg (cs := [.t (.sl (p0_0.map e57)), .t (.v (.int .i64 p0_1)), .t (.sl (p0_2.map e51)), .t (.sl (p0_3.map e42)), .t (.v (.int .u64 p0_4))]) rfl Try.isAgg33 i33 rfl ⟨rfl, rfl, rfl, rfl, rfl, trivial⟩ (.tmp rfl (.tmp rfl .nil))), rfl, rfl, rfl, ⟨rfl, rfl, trivial⟩⟩
    · have h := of_false hc3 h
      refine aw_skip ?_
      show AW _ _ _ _ _
      refine aw_seq ?_
      refine aw_seq ?_
      obtain ⟨v6, hv6, h⟩ := bind_some h
      refine aw_region (.cons (.plain rfl (c_loadBox (cs := [.t (.sl (p0_0.map e57)), .t (.v (.int .i64 p0_1)), .t (.sl (p0_2.map e51)), .t (.sl (p0_3.map e42)), .t (.v (.int .u64 p0_4))]) rfl rfl (by decide) Try.isAgg33 i33 rfl .tmp)) ⟨rfl, rfl, rfl, rfl, rfl, rfl, trivial⟩ rfl <| .cons (.plain rfl (c_move rfl rfl (by decide) .tmp)) ⟨rfl, trivial⟩ rfl <| .cons (.plain rfl (c_call (ins := [.agg [.t (.sl (p0_0.map e57)), .t (.v (.int .i64 p0_1)), .t (.sl (p0_2.map e51)), .t (.sl (p0_3.map e42)), .t (.v (.int .u64 p0_4))], .one (.t (.v (.int .i64 p1))), .one (.t (.v (.int .i64 1)))]) (caps := []) rfl rfl rfl (by decide) .clo (find_Local_calls _ _ _ _ _ _ _ _ hv6) (.cons .tmp (.cons .tmp (.cons (.const rfl) .nil))) rfl rfl)) ⟨rfl, rfl, trivial⟩ rfl <| .cons (.plain rfl (c_move rfl rfl (by decide) .tmp)) ⟨rfl, trivial⟩ rfl <| .cons (.plain rfl (c_extract rfl rfl (by decide) .tmp rfl rfl)) ⟨rfl, trivial⟩ rfl <| .cons (.plain rfl (c_extract rfl rfl (by decide) .tmp rfl rfl)) ⟨rfl, trivial⟩ rfl <| .cons (.plain rfl (c_extract rfl rfl (by decide) .tmp rfl rfl)) ⟨rfl, trivial⟩ rfl <| .cons (.plain rfl (c_alloc rfl rfl (by decide) i33 rfl rfl rfl)) trivial rfl <| .cons (.plain rfl (c_storeBox (cs0 := [.t (.v (.slice none 0 0)), .t (.v (.int .i64 0)), .t (.v (.slice none 0 0)), .t (.v (.slice none 0 0)), .t (.v (.int .u64 0))]) (cs := [.t (.sl (v6.1.map e57)), .t (.v (.int .i64 v6.2.1)), .t (.sl (v6.2.2.1.map e51)), .t (.sl (v6.2.2.2.1.map e42)), .t (.v (.int .u64 v6.2.2.2.2.1))]) rfl rfl i33 rfl rfl .tmp .tmp)) ⟨rfl, rfl, rfl, rfl, rfl, rfl, rfl, trivial⟩ rfl <| .cons (.plain rfl (c_assign rfl rfl (by decide) .tmp)) ⟨rfl, trivial⟩ rfl <| .cons (.plain rfl (c_assign rfl rfl (by decide) .tmp)) ⟨rfl, trivial⟩ rfl <| .nil) ?_
      show AW _ _ _ _ _
      refine aw_seq ?_
      refine aw_region (.cons (.plain rfl (c_move rfl rfl (by decide) .tmp)) ⟨rfl, trivial⟩ rfl <| .cons (.plain rfl (c_neq rfl rfl (by decide) .tmp (.const rfl))) ⟨rfl, trivial⟩ rfl <| .nil) ?_
      show AW _ _ _ _ _
      refine aw_cond .tmp ⟨rfl, trivial⟩ (fun hc4 => ?_) (fun hc4 => ?_)
      · have h := of_true hc4 h
        refine aw_seq ?_
        refine aw_region (.cons (.plain rfl (c_loadBox (cs := [.t (.sl (p0_0.map e57)), .t (.v (.int .i64 p0_1)), .t (.sl (p0_2.map e51)), .t (.sl (p0_3.map e42)), .t (.v (.int .u64 p0_4))]) rfl rfl (by decide) Try.isAgg33 i33 rfl .tmp)) ⟨rfl, rfl, rfl, rfl, rfl, rfl, trivial⟩ rfl <| .cons (.plain rfl (c_storeBox (cs0 := [.t (.v (.slice none 0 0)), .t (.v (.int .i64 0)), .t (.v (.slice none 0 0)), .t (.v (.slice none 0 0)), .t (.v (.int .u64 0))]) (cs := [.t (.sl (p0_0.map e57)), .t (.v (.int .i64 p0_1)), .t (.sl (p0_2.map e51)), .t (.sl (p0_3.map e42)), .t (.v (.int .u64 p0_4))]) rfl rfl i33 rfl rfl .tmp .tmp)) ⟨rfl, rfl, rfl, rfl, rfl, rfl, rfl, trivial⟩ rfl <| .cons (.plain rfl (c_assign rfl rfl (by decide) (.const rfl))) trivial rfl <| .cons (.plain rfl (c_assign rfl rfl (by decide) (.const rfl))) trivial rfl <| .nil) ?_
        show AW _ _ _ _ _
        refine aw_goes (σ' := [(.tmp 6, .m (.one (.ptr 6 0))), (.tmp 7, .m (.one (.t (.v (.int .i64 0))))), (.tmp 8, .m (.one (.t (.v (.int .i64 ((-1))))))), (.cell 6 0, .c (.t (.sl (p0_0.map e57)))), (.cell 6 1, .c (.t (.v (.int .i64 p0_1)))), (.cell 6 2, .c (.t (.sl (p0_2.map e51)))), (.cell 6 3, .c (.t (.sl (p0_3.map e42)))), (.cell 6 4, .c (.t (.v (.int .u64 p0_4))))]) (Goes.into [(6, 6)] ⟨rfl, rfl, .refl, .refl, .refl, .refl, .refl, .refl, .refl, .refl, trivial⟩) ?_
        refine aw_ret ?_
        obtain rfl := Option.some.inj h
        exact ⟨.inr rfl, _, [], (.cellAgg (cs := [.t (.sl (p0_0.map e57)), .t (.v (.int .i64 p0_1)), .t (.sl (p0_2.map e51)), .t (.sl (p0_3.map e42)), .t (.v (.int .u64 p0_4))]) rfl Try.isAgg33 i33 rfl ⟨rfl, rfl, rfl, rfl, rfl, trivial⟩ (.tmp rfl (.tmp rfl .nil))), rfl, rfl, rfl, ⟨rfl, rfl, trivial⟩⟩
      · have h := of_false hc4 h
        refine aw_skip ?_
        show AW _ _ _ _ _
        refine aw_seq ?_
        refine aw_seq ?_
        obtain ⟨v7, hv7, h⟩ := bind_some h
        refine aw_region (.cons (.plain rfl (c_loadBox (cs := [.t (.sl (p0_0.map e57)), .t (.v (.int .i64 p0_1)), .t (.sl (p0_2.map e51)), .t (.sl (p0_3.map e42)), .t (.v (.int .u64 p0_4))]) rfl rfl (by decide) Try.isAgg33 i33 rfl .tmp)) ⟨rfl, rfl, rfl, rfl, rfl, rfl, trivial⟩ rfl <| .cons (.plain rfl (c_move rfl rfl (by decide) .tmp)) ⟨rfl, trivial⟩ rfl <| .cons (.plain rfl (c_move rfl rfl (by decide) .tmp)) ⟨rfl, trivial⟩ rfl <| .cons (.plain rfl (c_call (ins := [.agg [.t (.sl (p0_0.map e57)), .t (.v (.int .i64 p0_1)), .t (.sl (p0_2.map e51)), .t (.sl (p0_3.map e42)), .t (.v (.int .u64 p0_4))], .one (.t (.v (.int .i64 p1))), .one (.t (.v (.int .i64 p2)))]) (caps := []) rfl rfl rfl (by decide) .clo (steal_Victims_calls _ _ _ _ _ _ _ _ hv7) (.cons .tmp (.cons .tmp (.cons .tmp .nil))) rfl rfl)) ⟨rfl, rfl, rfl, trivial⟩ rfl <| .cons (.plain rfl (c_assign rfl rfl (by decide) .tmp)) ⟨rfl, trivial⟩ rfl <| .nil) ?_
        show AW _ _ _ _ _
        refine aw_seq ?_
        refine aw_region (.cons (.plain rfl (c_move rfl rfl (by decide) .tmp)) ⟨rfl, trivial⟩ rfl <| .cons (.plain rfl (k_len (i := Try.t3) (l := v7) (f := e3) (fun _ => rfl) (by decide) rfl rfl (by decide) Try.underlying42 (src_tree (f := e3) (fun _ => rfl) (by decide) .tmp))) ⟨rfl, trivial⟩ rfl <| .cons (.plain rfl (c_gtr rfl rfl (by decide) .tmp (.const rfl))) ⟨rfl, trivial⟩ rfl <| .nil) ?_
        show AW _ _ _ _ _
        refine aw_cond .tmp ⟨rfl, trivial⟩ (fun hc5 => ?_) (fun hc5 => ?_)
        · have h := of_true hc5 h
          refine aw_seq ?_
          obtain ⟨v8, hv8, h⟩ := bind_some h
          obtain ⟨v9, hv9, h⟩ := bind_some h
          refine aw_region_draw mixed (.cons (.plain rfl (c_loadBox (cs := [.t (.sl (p0_0.map e57)), .t (.v (.int .i64 p0_1)), .t (.sl (p0_2.map e51)), .t (.sl (p0_3.map e42)), .t (.v (.int .u64 p0_4))]) rfl rfl (by decide) Try.isAgg33 i33 rfl .tmp)) ⟨rfl, rfl, rfl, rfl, rfl, rfl, trivial⟩ rfl <| .cons (.plain rfl (c_move rfl rfl (by decide) .tmp)) ⟨rfl, trivial⟩ rfl <| .cons (.plain rfl (c_move rfl rfl (by decide) .tmp)) ⟨rfl, trivial⟩ rfl <| .cons (.plain rfl (k_index (f := e3) (i := Try.t3) hv8 rfl rfl rfl (by decide) Try.underlying42 i3 .tmp (.const rfl))) ⟨rfl, trivial⟩ rfl <| .cons (.plain rfl (c_loadTree rfl rfl (by decide) Try.isAgg3 .tmp rfl)) ⟨rfl, trivial⟩ rfl <| .cons (.plain rfl (c_call (ins := [.agg [.t (.sl (p0_0.map e57)), .t (.v (.int .i64 p0_1)), .t (.sl (p0_2.map e51)), .t (.sl (p0_3.map e42)), .t (.v (.int .u64 p0_4))], .one (.t (.v (.int .i64 p1))), .one (.t (.v (.int .i64 v8)))]) (caps := []) rfl rfl rfl (by decide) .clo (steal_take_calls _ _ _ _ _ _ _ _ hv9) (.cons .tmp (.cons .tmp (.cons .tmp .nil))) rfl rfl)) ⟨rfl, rfl, rfl, trivial⟩ rfl <| .cons (.plain rfl (c_extract rfl rfl (by decide) .tmp rfl rfl)) ⟨rfl, trivial⟩ rfl <| .cons (.plain rfl (c_extract rfl rfl (by decide) .tmp rfl rfl)) ⟨rfl, trivial⟩ rfl <| .cons (.plain rfl (c_extract rfl rfl (by decide) .tmp rfl rfl)) ⟨rfl, trivial⟩ rfl <| .cons (.plain rfl (c_storeBox (cs0 := [.t (.v (.slice none 0 0)), .t (.v (.int .i64 0)), .t (.v (.slice none 0 0)), .t (.v (.slice none 0 0)), .t (.v (.int .u64 0))]) (cs := [.t (.sl (v9.1.map e57)), .t (.v (.int .i64 v9.2.1)), .t (.sl (v9.2.2.1.map e51)), .t (.sl (v9.2.2.2.1.map e42)), .t (.v (.int .u64 v9.2.2.2.2.1))]) rfl rfl i33 rfl rfl .tmp .tmp)) ⟨rfl, rfl, rfl, rfl, rfl, rfl, rfl, trivial⟩ rfl <| .cons (.plain rfl (c_assign rfl rfl (by decide) .tmp)) ⟨rfl, trivial⟩ rfl <| .cons (.plain rfl (c_assign rfl rfl (by decide) .tmp)) ⟨rfl, trivial⟩ rfl <| .nil) rfl rfl ?_
          show AW _ _ _ _ _
          refine aw_goes (σ' := [(.tmp 6, .m (.one (.ptr 6 0))), (.tmp 7, .m (.one (.t (.v (.int .i64 v9.2.2.2.2.2.1))))), (.tmp 8, .m (.one (.t (.v (.int .i64 v9.2.2.2.2.2.2))))), (.cell 6 0, .c (.t (.sl (v9.1.map e57)))), (.cell 6 1, .c (.t (.v (.int .i64 v9.2.1)))), (.cell 6 2, .c (.t (.sl (v9.2.2.1.map e51)))), (.cell 6 3, .c (.t (.sl (v9.2.2.2.1.map e42)))), (.cell 6 4, .c (.t (.v (.int .u64 v9.2.2.2.2.1))))]) (Goes.into [(6, 6)] ⟨rfl, rfl, .refl, .refl, .refl, .refl, .refl, .refl, .refl, .refl, trivial⟩) ?_
          refine aw_ret ?_
          obtain rfl := Option.some.inj h
          exact ⟨.inr rfl, _, [], (.cellAgg (cs := [.t (.sl (v9.1.map e57)), .t (.v (.int .i64 v9.2.1)), .t (.sl (v9.2.2.1.map e51)), .t (.sl (v9.2.2.2.1.map e42)), .t (.v (.int .u64 v9.2.2.2.2.1))]) rfl Try.isAgg33 i33 rfl ⟨rfl, rfl, rfl, rfl, rfl, trivial⟩ (.tmp rfl (.tmp rfl .nil))), rfl, rfl, rfl, ⟨rfl, rfl, trivial⟩⟩
        · have h := of_false hc5 h
          refine aw_skip ?_
          show AW _ _ _ _ _
          refine aw_seq ?_
          refine aw_seq ?_
          refine aw_region (.cons (.plain rfl (c_move rfl rfl (by decide) .tmp)) ⟨rfl, trivial⟩ rfl <| .cons (.plain rfl (c_geq rfl rfl (by decide) .tmp (.const rfl))) ⟨rfl, trivial⟩ rfl <| .nil) ?_
          show AW _ _ _ _ _
          refine aw_cond .tmp ⟨rfl, trivial⟩ (fun hc6 => ?_) (fun hc6 => ?_)
          · have h := of_true hc6 h
            refine aw_seq ?_
            obtain ⟨v10, hv10, h⟩ := bind_some h
            refine aw_region (.cons (.plain rfl (c_loadBox (cs := [.t (.sl (p0_0.map e57)), .t (.v (.int .i64 p0_1)), .t (.sl (p0_2.map e51)), .t (.sl (p0_3.map e42)), .t (.v (.int .u64 p0_4))]) rfl rfl (by decide) Try.isAgg33 i33 rfl .tmp)) ⟨rfl, rfl, rfl, rfl, rfl, rfl, trivial⟩ rfl <| .cons (.plain rfl (c_move rfl rfl (by decide) .tmp)) ⟨rfl, trivial⟩ rfl <| .cons (.plain rfl (c_call (ins := [.agg [.t (.sl (p0_0.map e57)), .t (.v (.int .i64 p0_1)), .t (.sl (p0_2.map e51)), .t (.sl (p0_3.map e42)), .t (.v (.int .u64 p0_4))], .one (.t (.v (.int .i64 p1)))]) (caps := []) rfl rfl rfl (by decide) .clo (steal_row_calls _ _ _ _ _ _ _ hv10) (.cons .tmp (.cons .tmp .nil)) rfl rfl)) ⟨rfl, rfl, trivial⟩ rfl <| .cons (.plain rfl (c_extract rfl rfl (by decide) .tmp rfl rfl)) ⟨rfl, trivial⟩ rfl <| .cons (.plain rfl (c_extract rfl rfl (by decide) .tmp rfl rfl)) ⟨rfl, trivial⟩ rfl <| .cons (.plain rfl (c_extract rfl rfl (by decide) .tmp rfl rfl)) ⟨rfl, trivial⟩ rfl <| .cons (.plain rfl (c_storeBox (cs0 := [.t (.v (.slice none 0 0)), .t (.v (.int .i64 0)), .t (.v (.slice none 0 0)), .t (.v (.slice none 0 0)), .t (.v (.int .u64 0))]) (cs := [.t (.sl (v10.1.map e57)), .t (.v (.int .i64 v10.2.1)), .t (.sl (v10.2.2.1.map e51)), .t (.sl (v10.2.2.2.1.map e42)), .t (.v (.int .u64 v10.2.2.2.2.1))]) rfl rfl i33 rfl rfl .tmp .tmp)) ⟨rfl, rfl, rfl, rfl, rfl, rfl, rfl, trivial⟩ rfl <| .cons (.plain rfl (c_assign rfl rfl (by decide) .tmp)) ⟨rfl, trivial⟩ rfl <| .cons (.plain rfl (c_assign rfl rfl (by decide) .tmp)) ⟨rfl, trivial⟩ rfl <| .nil) ?_
            show AW _ _ _ _ _
            refine aw_goes (σ' := [(.tmp 6, .m (.one (.ptr 6 0))), (.tmp 7, .m (.one (.t (.v (.int .i64 v10.2.2.2.2.2.1))))), (.tmp 8, .m (.one (.t (.v (.int .i64 v10.2.2.2.2.2.2))))), (.cell 6 0, .c (.t (.sl (v10.1.map e57)))), (.cell 6 1, .c (.t (.v (.int .i64 v10.2.1)))), (.cell 6 2, .c (.t (.sl (v10.2.2.1.map e51)))), (.cell 6 3, .c (.t (.sl (v10.2.2.2.1.map e42)))), (.cell 6 4, .c (.t (.v (.int .u64 v10.2.2.2.2.1))))]) (Goes.into [(6, 6)] ⟨rfl, rfl, .refl, .refl, .refl, .refl, .refl, .refl, .refl, .refl, trivial⟩) ?_
            refine aw_ret ?_
            obtain rfl := Option.some.inj h
            exact ⟨.inr rfl, _, [], (.cellAgg (cs := [.t (.sl (v10.1.map e57)), .t (.v (.int .i64 v10.2.1)), .t (.sl (v10.2.2.1.map e51)), .t (.sl (v10.2.2.2.1.map e42)), .t (.v (.int .u64 v10.2.2.2.2.1))]) rfl Try.isAgg33 i33 rfl ⟨rfl, rfl, rfl, rfl, rfl, trivial⟩ (.tmp rfl (.tmp rfl .nil))), rfl, rfl, rfl, ⟨rfl, rfl, trivial⟩⟩
          · have h := of_false hc6 h
            refine aw_skip ?_
            show AW _ _ _ _ _
            refine aw_seq ?_
            refine aw_region (.cons (.plain rfl (c_loadBox (cs := [.t (.sl (p0_0.map e57)), .t (.v (.int .i64 p0_1)), .t (.sl (p0_2.map e51)), .t (.sl (p0_3.map e42)), .t (.v (.int .u64 p0_4))]) rfl rfl (by decide) Try.isAgg33 i33 rfl .tmp)) ⟨rfl, rfl, rfl, rfl, rfl, rfl, trivial⟩ rfl <| .cons (.plain rfl (c_storeBox (cs0 := [.t (.v (.slice none 0 0)), .t (.v (.int .i64 0)), .t (.v (.slice none 0 0)), .t (.v (.slice none 0 0)), .t (.v (.int .u64 0))]) (cs := [.t (.sl (p0_0.map e57)), .t (.v (.int .i64 p0_1)), .t (.sl (p0_2.map e51)), .t (.sl (p0_3.map e42)), .t (.v (.int .u64 p0_4))]) rfl rfl i33 rfl rfl .tmp .tmp)) ⟨rfl, rfl, rfl, rfl, rfl, rfl, rfl, trivial⟩ rfl <| .cons (.plain rfl (c_assign rfl rfl (by decide) (.const rfl))) trivial rfl <| .cons (.plain rfl (c_assign rfl rfl (by decide) (.const rfl))) trivial rfl <| .nil) ?_
            show AW _ _ _ _ _
            refine aw_goes (σ' := [(.tmp 6, .m (.one (.ptr 6 0))), (.tmp 7, .m (.one (.t (.v (.int .i64 0))))), (.tmp 8, .m (.one (.t (.v (.int .i64 ((-1))))))), (.cell 6 0, .c (.t (.sl (p0_0.map e57)))), (.cell 6 1, .c (.t (.v (.int .i64 p0_1)))), (.cell 6 2, .c (.t (.sl (p0_2.map e51)))), (.cell 6 3, .c (.t (.sl (p0_3.map e42)))), (.cell 6 4, .c (.t (.v (.int .u64 p0_4))))]) (Goes.into [(6, 6)] ⟨rfl, rfl, .refl, .refl, .refl, .refl, .refl, .refl, .refl, .refl, trivial⟩) ?_
            refine aw_ret ?_
            obtain rfl := Option.some.inj h
            exact ⟨.inr rfl, _, [], (.cellAgg (cs := [.t (.sl (p0_0.map e57)), .t (.v (.int .i64 p0_1)), .t (.sl (p0_2.map e51)), .t (.sl (p0_3.map e42)), .t (.v (.int .u64 p0_4))]) rfl Try.isAgg33 i33 rfl ⟨rfl, rfl, rfl, rfl, rfl, trivial⟩ (.tmp rfl (.tmp rfl .nil))), rfl, rfl, rfl, ⟨rfl, rfl, trivial⟩⟩

def ref01_Ints_L1 (p0 : List (Int)) (p1 : List (Int)) (v7 : Int) : Option (Int ⊕ (Unit ⊕ Bool)) := bif decide (v7 < (p0.length : Int)) then (at_ p0 v7).bind fun v9 => (at_ p1 v7).bind fun v10 => bif !decide (v9 = v10) then some (.inr (.inr false)) else some (.inl (wi64 (v7 + 1))) else some (.inr (.inl (())))
def ref01_Ints (p0 : List (Int)) (p1 : List (Int)) : Option Bool := bif !decide ((p0.length : Int) = (p1.length : Int)) then some false else (loopO (ref01_Ints_L1 p0 p1) fuel 0).bind fun s => s.elim (fun v8 => some true) (fun j : Bool => some j)
theorem ref01_Ints_calls (p0 : List (Int)) (p1 : List (Int)) (r : Bool) (h : ref01_Ints p0 p1 = some r) : ACalls Try.prog 16 [.one (.t (.sl (p0.map e3))), .one (.t (.sl (p1.map e3)))] [] (.one (.t (.v (.bool r)))) [] := by
  unfold ref01_Ints at h
  refine acalls_of_AW Try.func16 rfl Try.call16 (by decide) (show 2 ≤ 26 by decide) rfl rfl ?_
  refine aw_seq ?_
  refine aw_region (.cons (.plain rfl (c_assign rfl rfl (by decide) (.const rfl))) trivial rfl <| .nil) ?_
  show AW _ _ _ _ _
  refine aw_seq ?_
  refine aw_seq ?_
  refine aw_region (.cons (.plain rfl (c_move rfl rfl (by decide) .tmp)) ⟨rfl, trivial⟩ rfl <| .cons (.plain rfl (k_len (i := Try.t3) (l := p0) (f := e3) (fun _ => rfl) (by decide) rfl rfl (by decide) Try.underlying42 (src_tree (f := e3) (fun _ => rfl) (by decide) .tmp))) ⟨rfl, trivial⟩ rfl <| .cons (.plain rfl (c_move rfl rfl (by decide) .tmp)) ⟨rfl, trivial⟩ rfl <| .cons (.plain rfl (k_len (i := Try.t3) (l := p1) (f := e3) (fun _ => rfl) (by decide) rfl rfl (by decide) Try.underlying42 (src_tree (f := e3) (fun _ => rfl) (by decide) .tmp))) ⟨rfl, trivial⟩ rfl <| .cons (.plain rfl (c_neq rfl rfl (by decide) .tmp .tmp)) ⟨rfl, rfl, trivial⟩ rfl <| .nil) ?_
  show AW _ _ _ _ _
  refine aw_cond .tmp ⟨rfl, trivial⟩ (fun hc1 => ?_) (fun hc1 => ?_)
  · have h := of_true hc1 h
    refine aw_seq ?_
    refine aw_region (.cons (.plain rfl (c_assign rfl rfl (by decide) (.const rfl))) trivial rfl <| .nil) ?_
    show AW _ _ _ _ _
    refine aw_goes (σ' := [(.tmp 4, .m (.one (.t (.v (.bool false)))))]) (Goes.into [] ⟨rfl, rfl, .refl, trivial⟩) ?_
    refine aw_ret ?_
    obtain rfl := Option.some.inj h
    exact ⟨.inr rfl, _, [], (.tmp rfl .nil), rfl, rfl, rfl, ⟨rfl, rfl, trivial⟩⟩
  · have h := of_false hc1 h
    refine aw_skip ?_
    show AW _ _ _ _ _
    refine aw_seq ?_
    refine aw_seq ?_
    refine aw_region (.cons (.plain rfl (c_assign rfl rfl (by decide) (.const rfl))) trivial rfl <| .nil) ?_
    show AW _ _ _ _ _
    refine aw_loopJ (fun v7 : Int => [(.tmp 0, .m (.one (.t (.sl (p0.map e3))))), (.tmp 1, .m (.one (.t (.sl (p1.map e3))))), (.tmp 5, .m (.one (.t (.v (.int .i64 v7)))))]) (fun v8 : Unit => []) h (Goes.into [] ⟨rfl, rfl, .refl, .refl, .refl, trivial⟩) (fun v7 _ h => ?_) (fun v8 h => ?_)
    · unfold ref01_Ints_L1 at h
      refine aw_seq ?_
      refine aw_seq ?_
      refine aw_region (.cons (.plain rfl (c_move rfl rfl (by decide) .tmp)) ⟨rfl, trivial⟩ rfl <| .cons (.plain rfl (c_move rfl rfl (by decide) .tmp)) ⟨rfl, trivial⟩ rfl <| .cons (.plain rfl (k_len (i := Try.t3) (l := p0) (f := e3) (fun _ => rfl) (by decide) rfl rfl (by decide) Try.underlying42 (src_tree (f := e3) (fun _ => rfl) (by decide) .tmp))) ⟨rfl, trivial⟩ rfl <| .cons (.plain rfl (c_lss rfl rfl (by decide) .tmp .tmp)) ⟨rfl, rfl, trivial⟩ rfl <| .nil) ?_
      show AW _ _ _ _ _
      refine aw_cond .tmp ⟨rfl, trivial⟩ (fun hc6 => ?_) (fun hc6 => ?_)
      · have h := of_true hc6 h
        refine aw_skip ?_
        show AW _ _ _ _ _
        refine aw_seq ?_
        refine aw_block ?_
        refine aw_seq ?_
        obtain ⟨v9, hv9, h⟩ := bind_some h
        obtain ⟨v10, hv10, h⟩ := bind_some h
        refine aw_region_draw mixed (.cons (.plain rfl (c_move rfl rfl (by decide) .tmp)) ⟨rfl, trivial⟩ rfl <| .cons (.plain rfl (c_move rfl rfl (by decide) .tmp)) ⟨rfl, trivial⟩ rfl <| .cons (.plain rfl (k_index (f := e3) (i := Try.t3) hv9 rfl rfl rfl (by decide) Try.underlying42 i3 .tmp .tmp)) ⟨rfl, rfl, trivial⟩ rfl <| .cons (.plain rfl (c_loadTree rfl rfl (by decide) Try.isAgg3 .tmp rfl)) ⟨rfl, trivial⟩ rfl <| .cons (.plain rfl (c_move rfl rfl (by decide) .tmp)) ⟨rfl, trivial⟩ rfl <| .cons (.plain rfl (c_move rfl rfl (by decide) .tmp)) ⟨rfl, trivial⟩ rfl <| .cons (.plain rfl (k_index (f := e3) (i := Try.t3) hv10 rfl rfl rfl (by decide) Try.underlying42 i3 .tmp .tmp)) ⟨rfl, rfl, trivial⟩ rfl <| .cons (.plain rfl (c_loadTree rfl rfl (by decide) Try.isAgg3 .tmp rfl)) ⟨rfl, trivial⟩ rfl <| .cons (.plain rfl (c_neq rfl rfl (by decide) .tmp .tmp)) ⟨rfl, rfl, trivial⟩ rfl <| .nil) rfl rfl ?_
        show AW _ _ _ _ _
        refine aw_cond .tmp ⟨rfl, trivial⟩ (fun hc7 => ?_) (fun hc7 => ?_)
        · have h := of_true hc7 h
          refine aw_seq ?_
          refine aw_region (.cons (.plain rfl (c_assign rfl rfl (by decide) (.const rfl))) trivial rfl <| .nil) ?_
          show AW _ _ _ _ _
          refine aw_goes (σ' := [(.tmp 4, .m (.one (.t (.v (.bool false)))))]) (Goes.into [] ⟨rfl, rfl, .refl, trivial⟩) ?_
          refine aw_ret ?_
          obtain rfl := Option.some.inj h
          refine ⟨_, rfl, fun h => ?_⟩
          obtain rfl := Option.some.inj h
          exact ⟨.inr rfl, _, [], (.tmp rfl .nil), rfl, rfl, rfl, ⟨rfl, rfl, trivial⟩⟩
        · have h := of_false hc7 h
          refine aw_skip ?_
          show AW _ _ _ _ _
          refine aw_region (.cons (.plain rfl (c_move rfl rfl (by decide) .tmp)) ⟨rfl, trivial⟩ rfl <| .cons (.plain rfl (c_add rfl rfl (by decide) .tmp (.const rfl))) ⟨rfl, trivial⟩ rfl <| .cons (.plain rfl (c_assign rfl rfl (by decide) .tmp)) ⟨rfl, trivial⟩ rfl <| .nil) ?_
          obtain rfl := Option.some.inj h
          exact ⟨_, rfl, (Goes.into [] ⟨rfl, rfl, .refl, .refl, .refl, trivial⟩)⟩
      · have h := of_false hc6 h
        refine aw_exit ?_
        obtain rfl := Option.some.inj h
        exact ⟨_, rfl, (Goes.into [] ⟨rfl, rfl, trivial⟩)⟩
    · show AW _ _ _ _ _
      refine aw_seq ?_
      refine aw_region (.cons (.plain rfl (c_assign rfl rfl (by decide) (.const rfl))) trivial rfl <| .nil) ?_
      show AW _ _ _ _ _
      refine aw_goes (σ' := [(.tmp 4, .m (.one (.t (.v (.bool true)))))]) (Goes.into [] ⟨rfl, rfl, .refl, trivial⟩) ?_
      refine aw_ret ?_
      obtain rfl := Option.some.inj h
      exact ⟨.inr rfl, _, [], (.tmp rfl .nil), rfl, rfl, rfl, ⟨rfl, rfl, trivial⟩⟩

noncomputable def law17_shown : Option Bool := (steal_Steal [((-1), 0), (0, 1), (1, 2), (2, 3), (2, 3)] 4 ([(0, []), (0, [1, 2, 3])]) ([[]]) 3 0 1).bind fun v1 => (bif decide (v1.2.2.2.2.2.1 = 1) then bif decide (v1.2.2.2.2.2.2 = 1) then bif decide ((v1.2.2.1.length : Int) = 2) then (at_ v1.2.2.1 0).bind fun v6 => (ref01_Ints v6.2 [2]).bind fun v7 => bif v7 then (at_ v1.2.2.1 1).bind fun v8 => (ref01_Ints v8.2 [3]).bind fun v9 => some v9 else some false else some false else some false else some false : Option Bool).bind fun v10 => some v10
theorem law17_shown_calls (r : Bool) (h : law17_shown  = some r) : ACalls Try.prog 9 [] [] (.one (.t (.v (.bool r)))) [] := by
  unfold law17_shown at h
  refine acalls_of_AW Try.func9 rfl Try.call9 (by decide) (show 0 ≤ 53 by decide) rfl rfl ?_
  refine aw_seq ?_
  refine aw_region (.cons (.plain rfl (c_assign rfl rfl (by decide) (.const rfl))) trivial rfl <| .nil) ?_
  show AW _ _ _ _ _
  refine aw_seq ?_
  refine aw_region (.cons (.plain rfl (c_build rfl rfl (by decide) Try.underlying57 i57 rfl rfl rfl rfl (.c1 (.const rfl) .nil) rfl)) trivial rfl <| .cons (.plain rfl (c_build rfl rfl (by decide) Try.underlying57 i57 rfl rfl rfl rfl (.c1 (.const rfl) .nil) rfl)) trivial rfl <| .cons (.plain rfl (c_build rfl rfl (by decide) Try.underlying57 i57 rfl rfl rfl rfl (.c1 (.const rfl) (.c1 (.const rfl) .nil)) rfl)) trivial rfl <| .cons (.plain rfl (c_build rfl rfl (by decide) Try.underlying57 i57 rfl rfl rfl rfl (.c1 (.const rfl) (.c1 (.const rfl) .nil)) rfl)) trivial rfl <| .cons (.plain rfl (c_build rfl rfl (by decide) Try.underlying57 i57 rfl rfl rfl rfl (.c1 (.const rfl) (.c1 (.const rfl) .nil)) rfl)) trivial rfl <| .cons (.plain rfl (.frozen (by simp) (c_buildSlice (sz := 2) (es := [((-1), 0), (0, 1), (1, 2), (2, 3), (2, 3)].map e57) rfl rfl (by decide) Try.underlying22 i57 rfl rfl rfl rfl (by decide) (.cN [.v (.int .i64 ((-1))), .v (.int .i64 0)] .tmp (.cN [.v (.int .i64 0), .v (.int .i64 1)] .tmp (.cN [.v (.int .i64 1), .v (.int .i64 2)] .tmp (.cN [.v (.int .i64 2), .v (.int .i64 3)] .tmp (.cN [.v (.int .i64 2), .v (.int .i64 3)] .tmp .nil))))) rfl (emb_len (f := e57) (n := 2) (fun _ => rfl) _) (by decide)))) ⟨rfl, rfl, rfl, rfl, rfl, trivial⟩ rfl <| .cons (.plain rfl (c_assign rfl rfl (by decide) .tmp)) ⟨rfl, trivial⟩ rfl <| .nil) ?_
  show AW _ _ _ _ _
  refine aw_seq ?_
  obtain ⟨v1, hv1, h⟩ := bind_some h
  refine aw_region (.cons (.plain rfl (c_move rfl rfl (by decide) .tmp)) ⟨rfl, trivial⟩ rfl <| .cons (.plain rfl (c_build rfl rfl (by decide) Try.underlying51 i51 rfl rfl rfl rfl .nil rfl)) trivial rfl <| .cons (.plain rfl (.frozen (by simp) (c_buildSlice (sz := 1) (es := [1, 2, 3].map e3) rfl rfl (by decide) Try.underlying42 i3 rfl rfl rfl rfl (by decide) (.c1 (.const rfl) (.c1 (.const rfl) (.c1 (.const rfl) .nil))) rfl (emb_len (f := e3) (n := 1) (fun _ => rfl) _) (by decide)))) trivial rfl <| .cons (.plain rfl (c_build rfl rfl (by decide) Try.underlying51 i51 rfl rfl rfl rfl (.c1 .tmp .nil) rfl)) ⟨rfl, trivial⟩ rfl <| .cons (.plain rfl (.frozen (by simp) (c_buildSlice (sz := 2) (es := ([(0, []), (0, [1, 2, 3])]).map e51) rfl rfl (by decide) Try.underlying30 i51 rfl rfl rfl rfl (by decide) (.cN [.v (.int .i64 0), .sl ((([] : List (Int))).map e3)] (.le .tmp (.agg (.cons .refl (.cons .nil .nil)))) (.cN [.v (.int .i64 0), .sl ([1, 2, 3].map e3)] .tmp .nil)) rfl (emb_len (f := e51) (n := 2) (fun _ => rfl) _) (by decide)))) ⟨rfl, rfl, trivial⟩ rfl <| .cons (.plain rfl (.frozen (by simp) (c_buildSlice (sz := 1) (es := ([[]]).map e42) rfl rfl (by decide) Try.underlying24 i42 rfl rfl rfl rfl (by decide) (.c1 (.le (.const rfl) (.one .nil)) .nil) rfl (emb_len (f := e42) (n := 1) (fun _ => rfl) _) (by decide)))) trivial rfl <| .cons (.plain rfl (c_build rfl rfl (by decide) Try.underlying33 i33 rfl rfl rfl rfl (.c1 .tmp (.c1 (.const rfl) (.c1 .tmp (.c1 .tmp (.c1 (.const rfl) .nil))))) rfl)) ⟨rfl, rfl, rfl, trivial⟩ rfl <| .cons (.plain rfl (c_call (ins := [.agg [.t (.sl ([((-1), 0), (0, 1), (1, 2), (2, 3), (2, 3)].map e57)), .t (.v (.int .i64 4)), .t (.sl (([(0, []), (0, [1, 2, 3])]).map e51)), .t (.sl (([[]]).map e42)), .t (.v (.int .u64 3))], .one (.t (.v (.int .i64 0))), .one (.t (.v (.int .i64 1)))]) (caps := []) rfl rfl rfl (by decide) .clo (steal_Steal_calls _ _ _ _ _ _ _ _ hv1) (.cons .tmp (.cons (.const rfl) (.cons (.const rfl) .nil))) rfl rfl)) ⟨rfl, trivial⟩ rfl <| .cons (.plain rfl (c_move rfl rfl (by decide) .tmp)) ⟨rfl, trivial⟩ rfl <| .cons (.plain rfl (c_extract rfl rfl (by decide) .tmp rfl rfl)) ⟨rfl, trivial⟩ rfl <| .cons (.plain rfl (c_extract rfl rfl (by decide) .tmp rfl rfl)) ⟨rfl, trivial⟩ rfl <| .cons (.plain rfl (c_extract rfl rfl (by decide) .tmp rfl rfl)) ⟨rfl, trivial⟩ rfl <| .cons (.plain rfl (c_alloc rfl rfl (by decide) i33 rfl rfl rfl)) trivial rfl <| .cons (.plain rfl (c_storeBox (cs0 := [.t (.v (.slice none 0 0)), .t (.v (.int .i64 0)), .t (.v (.slice none 0 0)), .t (.v (.slice none 0 0)), .t (.v (.int .u64 0))]) (cs := [.t (.sl (v1.1.map e57)), .t (.v (.int .i64 v1.2.1)), .t (.sl (v1.2.2.1.map e51)), .t (.sl (v1.2.2.2.1.map e42)), .t (.v (.int .u64 v1.2.2.2.2.1))]) rfl rfl i33 rfl rfl .tmp .tmp)) ⟨rfl, rfl, rfl, rfl, rfl, rfl, rfl, trivial⟩ rfl <| .cons (.plain rfl (c_assign rfl rfl (by decide) .tmp)) ⟨rfl, trivial⟩ rfl <| .cons (.plain rfl (c_assign rfl rfl (by decide) .tmp)) ⟨rfl, trivial⟩ rfl <| .nil) ?_
  show AW _ _ _ _ _
  refine aw_seq ?_
  refine aw_cut0 (fun v10 : Bool => [(.tmp 0, .m (.one (.t (.v (.bool v10)))))]) h (fun _ h => ?_) (fun v10 h => ?_)
  · cases hc5 : decide (v1.2.2.2.2.2.1 = 1) with
    | true =>
      have h := of_true hc5 h
      cases hc6 : decide (v1.2.2.2.2.2.2 = 1) with
      | true =>
        have h := of_true hc6 h
        cases hc7 : decide ((v1.2.2.1.length : Int) = 2) with
        | true =>
          have h := of_true hc7 h
          obtain ⟨v6, hv6, h⟩ := bind_some h
          obtain ⟨v7, hv7, h⟩ := bind_some h
          rcases Bool.eq_false_or_eq_true v7 with hc8 | hc8
          · have h := of_true hc8 h
            obtain ⟨v8, hv8, h⟩ := bind_some h
            obtain ⟨v9, hv9, h⟩ := bind_some h
            refine aw_region (.cons (.plain rfl (c_move rfl rfl (by decide) .tmp)) ⟨rfl, trivial⟩ rfl <| .cons (.plain rfl (c_eql rfl rfl (by decide) .tmp (.const rfl))) ⟨rfl, trivial⟩ rfl <| .cons (.plain rfl (c_move rfl rfl (by decide) .tmp)) ⟨rfl, trivial⟩ rfl <| .cons (.on (t := 25) rfl rfl (c_move rfl rfl (by decide) .tmp)) ⟨(congrArg mB hc5), rfl, trivial⟩ rfl <| .cons (.on (t := 25) rfl rfl (c_eql rfl rfl (by decide) .tmp (.const rfl))) ⟨(congrArg mB hc5), rfl, trivial⟩ rfl <| .cons (.plain rfl (c_pick (b := true) rfl rfl (by decide) .tmp rfl .tmp)) ⟨(congrArg mB hc5), rfl, trivial⟩ rfl <| .cons (.plain rfl (c_move rfl rfl (by decide) .tmp)) ⟨rfl, trivial⟩ rfl <| .cons (.on (t := 29) rfl rfl (k_fieldP 30 2 rfl rfl (by decide) Try.underlying33 rfl i30 (by decide) .tmp)) ⟨(congrArg mB hc6), rfl, trivial⟩ rfl <| .cons (.on (t := 29) rfl rfl (c_loadCell rfl rfl (by decide) Try.isAgg30 .tmp)) ⟨(congrArg mB hc6), rfl, rfl, trivial⟩ rfl <| .cons (.on (t := 29) rfl rfl (k_len (i := Try.t51) (l := v1.2.2.1) (f := e51) (fun _ => rfl) (by decide) rfl rfl (by decide) Try.underlying30 (src_tree (f := e51) (fun _ => rfl) (by decide) .tmp))) ⟨(congrArg mB hc6), rfl, trivial⟩ rfl <| .cons (.on (t := 29) rfl rfl (c_eql rfl rfl (by decide) .tmp (.const rfl))) ⟨(congrArg mB hc6), rfl, trivial⟩ rfl <| .cons (.plain rfl (c_pick (b := true) rfl rfl (by decide) .tmp rfl .tmp)) ⟨(congrArg mB hc6), rfl, trivial⟩ rfl <| .cons (.plain rfl (c_move rfl rfl (by decide) .tmp)) ⟨rfl, trivial⟩ rfl <| .cons (.on (t := 35) rfl rfl (k_fieldP 30 2 rfl rfl (by decide) Try.underlying33 rfl i30 (by decide) .tmp)) ⟨(congrArg mB hc7), rfl, trivial⟩ rfl <| .cons (.on (t := 35) rfl rfl (c_loadCell rfl rfl (by decide) Try.isAgg30 .tmp)) ⟨(congrArg mB hc7), rfl, rfl, trivial⟩ rfl <| .cons (.on (t := 35) rfl rfl (k_index (f := e51) (i := Try.t51) hv6 rfl rfl rfl (by decide) Try.underlying30 i51 .tmp (.const rfl))) ⟨(congrArg mB hc7), rfl, trivial⟩ rfl <| .cons (.on (t := 35) rfl rfl (k_fieldT 42 1 rfl rfl (by decide) Try.underlying51 rfl i42 (by decide) .tmp)) ⟨(congrArg mB hc7), rfl, trivial⟩ rfl <| .cons (.on (t := 35) rfl rfl (c_loadTree rfl rfl (by decide) Try.isAgg42 .tmp rfl)) ⟨(congrArg mB hc7), rfl, trivial⟩ rfl <| .cons (.on (t := 35) rfl rfl (.frozen (by simp) (c_buildSlice (sz := 1) (es := [2].map e3) rfl rfl (by decide) Try.underlying42 i3 rfl rfl rfl rfl (by decide) (.c1 (.const rfl) .nil) rfl (emb_len (f := e3) (n := 1) (fun _ => rfl) _) (by decide)))) ⟨(congrArg mB hc7), trivial⟩ rfl <| .cons (.on (t := 35) rfl rfl (c_call (ins := [.one (.t (.sl (v6.2.map e3))), .one (.t (.sl ([2].map e3)))]) (caps := []) rfl rfl rfl (by decide) .clo (ref01_Ints_calls _ _ _ hv7) (.cons .tmp (.cons .tmp .nil)) rfl rfl)) ⟨(congrArg mB hc7), rfl, rfl, trivial⟩ rfl <| .cons (.plain rfl (c_pick (b := true) rfl rfl (by decide) .tmp rfl .tmp)) ⟨(congrArg mB hc7), rfl, trivial⟩ rfl <| .cons (.plain rfl (c_move rfl rfl (by decide) .tmp)) ⟨rfl, trivial⟩ rfl <| .cons (.on (t := 44) rfl rfl (k_fieldP 30 2 rfl rfl (by decide) Try.underlying33 rfl i30 (by decide) .tmp)) ⟨(congrArg mB hc8), rfl, trivial⟩ rfl <| .cons (.on (t := 44) rfl rfl (c_loadCell rfl rfl (by decide) Try.isAgg30 .tmp)) ⟨(congrArg mB hc8), rfl, rfl, trivial⟩ rfl <| .cons (.on (t := 44) rfl rfl (k_index (f := e51) (i := Try.t51) hv8 rfl rfl rfl (by decide) Try.underlying30 i51 .tmp (.const rfl))) ⟨(congrArg mB hc8), rfl, trivial⟩ rfl <| .cons (.on (t := 44) rfl rfl (k_fieldT 42 1 rfl rfl (by decide) Try.underlying51 rfl i42 (by decide) .tmp)) ⟨(congrArg mB hc8), rfl, trivial⟩ rfl <| .cons (.on (t := 44) rfl rfl (c_loadTree rfl rfl (by decide) Try.isAgg42 .tmp rfl)) ⟨(congrArg mB hc8), rfl, trivial⟩ rfl <| .cons (.on (t := 44) rfl rfl (.frozen (by simp) (c_buildSlice (sz := 1) (es := [3].map e3) rfl rfl (by decide) Try.underlying42 i3 rfl rfl rfl rfl (by decide) (.c1 (.const rfl) .nil) rfl (emb_len (f := e3) (n := 1) (fun _ => rfl) _) (by decide)))) ⟨(congrArg mB hc8), trivial⟩ rfl <| .cons (.on (t := 44) rfl rfl (c_call (ins := [.one (.t (.sl (v8.2.map e3))), .one (.t (.sl ([3].map e3)))]) (caps := []) rfl rfl rfl (by decide) .clo (ref01_Ints_calls _ _ _ hv9) (.cons .tmp (.cons .tmp .nil)) rfl rfl)) ⟨(congrArg mB hc8), rfl, rfl, trivial⟩ rfl <| .cons (.plain rfl (c_pick (b := true) rfl rfl (by decide) .tmp rfl .tmp)) ⟨(congrArg mB hc8), rfl, trivial⟩ rfl <| .cons (.plain rfl (c_assign rfl rfl (by decide) .tmp)) ⟨rfl, trivial⟩ rfl <| .nil) ?_
            obtain rfl := Option.some.inj h
            show Goes _ _
            exact (Goes.into [] ⟨rfl, rfl, .refl, trivial⟩)
          · have h := of_false hc8 h
            refine aw_region (.cons (.plain rfl (c_move rfl rfl (by decide) .tmp)) ⟨rfl, trivial⟩ rfl <| .cons (.plain rfl (c_eql rfl rfl (by decide) .tmp (.const rfl))) ⟨rfl, trivial⟩ rfl <| .cons (.plain rfl (c_move rfl rfl (by decide) .tmp)) ⟨rfl, trivial⟩ rfl <| .cons (.on (t := 25) rfl rfl (c_move rfl rfl (by decide) .tmp)) ⟨(congrArg mB hc5), rfl, trivial⟩ rfl <| .cons (.on (t := 25) rfl rfl (c_eql rfl rfl (by decide) .tmp (.const rfl))) ⟨(congrArg mB hc5), rfl, trivial⟩ rfl <| .cons (.plain rfl (c_pick (b := true) rfl rfl (by decide) .tmp rfl .tmp)) ⟨(congrArg mB hc5), rfl, trivial⟩ rfl <| .cons (.plain rfl (c_move rfl rfl (by decide) .tmp)) ⟨rfl, trivial⟩ rfl <| .cons (.on (t := 29) rfl rfl (k_fieldP 30 2 rfl rfl (by decide) Try.underlying33 rfl i30 (by decide) .tmp)) ⟨(congrArg mB hc6), rfl, trivial⟩ rfl <| .cons (.on (t := 29) rfl rfl (c_loadCell rfl rfl (by decide) Try.isAgg30 .tmp)) ⟨(congrArg mB hc6), rfl, rfl, trivial⟩ rfl <| .cons (.on (t := 29) rfl rfl (k_len (i := Try.t51) (l := v1.2.2.1) (f := e51) (fun _ => rfl) (by decide) rfl rfl (by decide) Try.underlying30 (src_tree (f := e51) (fun _ => rfl) (by decide) .tmp))) ⟨(congrArg mB hc6), rfl, trivial⟩ rfl <| .cons (.on (t := 29) rfl rfl (c_eql rfl rfl (by decide) .tmp (.const rfl))) ⟨(congrArg mB hc6), rfl, trivial⟩ rfl <| .cons (.plain rfl (c_pick (b := true) rfl rfl (by decide) .tmp rfl .tmp)) ⟨(congrArg mB hc6), rfl, trivial⟩ rfl <| .cons (.plain rfl (c_move rfl rfl (by decide) .tmp)) ⟨rfl, trivial⟩ rfl <| .cons (.on (t := 35) rfl rfl (k_fieldP 30 2 rfl rfl (by decide) Try.underlying33 rfl i30 (by decide) .tmp)) ⟨(congrArg mB hc7), rfl, trivial⟩ rfl <| .cons (.on (t := 35) rfl rfl (c_loadCell rfl rfl (by decide) Try.isAgg30 .tmp)) ⟨(congrArg mB hc7), rfl, rfl, trivial⟩ rfl <| .cons (.on (t := 35) rfl rfl (k_index (f := e51) (i := Try.t51) hv6 rfl rfl rfl (by decide) Try.underlying30 i51 .tmp (.const rfl))) ⟨(congrArg mB hc7), rfl, trivial⟩ rfl <| .cons (.on (t := 35) rfl rfl (k_fieldT 42 1 rfl rfl (by decide) Try.underlying51 rfl i42 (by decide) .tmp)) ⟨(congrArg mB hc7), rfl, trivial⟩ rfl <| .cons (.on (t := 35) rfl rfl (c_loadTree rfl rfl (by decide) Try.isAgg42 .tmp rfl)) ⟨(congrArg mB hc7), rfl, trivial⟩ rfl <| .cons (.on (t := 35) rfl rfl (.frozen (by simp) (c_buildSlice (sz := 1) (es := [2].map e3) rfl rfl (by decide) Try.underlying42 i3 rfl rfl rfl rfl (by decide) (.c1 (.const rfl) .nil) rfl (emb_len (f := e3) (n := 1) (fun _ => rfl) _) (by decide)))) ⟨(congrArg mB hc7), trivial⟩ rfl <| .cons (.on (t := 35) rfl rfl (c_call (ins := [.one (.t (.sl (v6.2.map e3))), .one (.t (.sl ([2].map e3)))]) (caps := []) rfl rfl rfl (by decide) .clo (ref01_Ints_calls _ _ _ hv7) (.cons .tmp (.cons .tmp .nil)) rfl rfl)) ⟨(congrArg mB hc7), rfl, rfl, trivial⟩ rfl <| .cons (.plain rfl (c_pick (b := true) rfl rfl (by decide) .tmp rfl .tmp)) ⟨(congrArg mB hc7), rfl, trivial⟩ rfl <| .cons (.plain rfl (c_move rfl rfl (by decide) .tmp)) ⟨rfl, trivial⟩ rfl <| .cons (.off (b' := false) rfl rfl rfl rfl (by decide)) ⟨(congrArg mB hc8), trivial⟩ rfl <| .cons (.off (b' := false) rfl rfl rfl rfl (by decide)) ⟨(congrArg mB hc8), trivial⟩ rfl <| .cons (.off (b' := false) rfl rfl rfl rfl (by decide)) ⟨(congrArg mB hc8), trivial⟩ rfl <| .cons (.off (b' := false) rfl rfl rfl rfl (by decide)) ⟨(congrArg mB hc8), trivial⟩ rfl <| .cons (.off (b' := false) rfl rfl rfl rfl (by decide)) ⟨(congrArg mB hc8), trivial⟩ rfl <| .cons (.off (b' := false) rfl rfl rfl rfl (by decide)) ⟨(congrArg mB hc8), trivial⟩ rfl <| .cons (.off (b' := false) rfl rfl rfl rfl (by decide)) ⟨(congrArg mB hc8), trivial⟩ rfl <| .cons (.plain rfl (c_pick (b := false) rfl rfl (by decide) .tmp rfl (.const rfl))) ⟨(congrArg mB hc8), trivial⟩ rfl <| .cons (.plain rfl (c_assign rfl rfl (by decide) .tmp)) ⟨rfl, trivial⟩ rfl <| .nil) ?_
            obtain rfl := Option.some.inj h
            show Goes _ _
            exact (Goes.into [] ⟨rfl, rfl, .refl, trivial⟩)
        | false =>
          have h := of_false hc7 h
          refine aw_region (.cons (.plain rfl (c_move rfl rfl (by decide) .tmp)) ⟨rfl, trivial⟩ rfl <| .cons (.plain rfl (c_eql rfl rfl (by decide) .tmp (.const rfl))) ⟨rfl, trivial⟩ rfl <| .cons (.plain rfl (c_move rfl rfl (by decide) .tmp)) ⟨rfl, trivial⟩ rfl <| .cons (.on (t := 25) rfl rfl (c_move rfl rfl (by decide) .tmp)) ⟨(congrArg mB hc5), rfl, trivial⟩ rfl <| .cons (.on (t := 25) rfl rfl (c_eql rfl rfl (by decide) .tmp (.const rfl))) ⟨(congrArg mB hc5), rfl, trivial⟩ rfl <| .cons (.plain rfl (c_pick (b := true) rfl rfl (by decide) .tmp rfl .tmp)) ⟨(congrArg mB hc5), rfl, trivial⟩ rfl <| .cons (.plain rfl (c_move rfl rfl (by decide) .tmp)) ⟨rfl, trivial⟩ rfl <| .cons (.on (t := 29) rfl rfl (k_fieldP 30 2 rfl rfl (by decide) Try.underlying33 rfl i30 (by decide) .tmp)) ⟨(congrArg mB hc6), rfl, trivial⟩ rfl <| .cons (.on (t := 29) rfl rfl (c_loadCell rfl rfl (by decide) Try.isAgg30 .tmp)) ⟨(congrArg mB hc6), rfl, rfl, trivial⟩ rfl <| .cons (.on (t := 29) rfl rfl (k_len (i := Try.t51) (l := v1.2.2.1) (f := e51) (fun _ => rfl) (by decide) rfl rfl (by decide) Try.underlying30 (src_tree (f := e51) (fun _ => rfl) (by decide) .tmp))) ⟨(congrArg mB hc6), rfl, trivial⟩ rfl <| .cons (.on (t := 29) rfl rfl (c_eql rfl rfl (by decide) .tmp (.const rfl))) ⟨(congrArg mB hc6), rfl, trivial⟩ rfl <| .cons (.plain rfl (c_pick (b := true) rfl rfl (by decide) .tmp rfl .tmp)) ⟨(congrArg mB hc6), rfl, trivial⟩ rfl <| .cons (.plain rfl (c_move rfl rfl (by decide) .tmp)) ⟨rfl, trivial⟩ rfl <| .cons (.off (b' := false) rfl rfl rfl rfl (by decide)) ⟨(congrArg mB hc7), trivial⟩ rfl <| .cons (.off (b' := false) rfl rfl rfl rfl (by decide)) ⟨(congrArg mB hc7), trivial⟩ rfl <| .cons (.off (b' := false) rfl rfl rfl rfl (by decide)) ⟨(congrArg mB hc7), trivial⟩ rfl <| .cons (.off (b' := false) rfl rfl rfl rfl (by decide)) ⟨(congrArg mB hc7), trivial⟩ rfl <| .cons (.off (b' := false) rfl rfl rfl rfl (by decide)) ⟨(congrArg mB hc7), trivial⟩ rfl <| .cons (.off (b' := false) rfl rfl rfl rfl (by decide)) ⟨(congrArg mB hc7), trivial⟩ rfl <| .cons (.off (b' := false) rfl rfl rfl rfl (by decide)) ⟨(congrArg mB hc7), trivial⟩ rfl <| .cons (.plain rfl (c_pick (b := false) rfl rfl (by decide) .tmp rfl (.const rfl))) ⟨(congrArg mB hc7), trivial⟩ rfl <| .cons (.plain rfl (c_move rfl rfl (by decide) .tmp)) ⟨rfl, trivial⟩ rfl <| .cons (.off (b' := false) rfl rfl rfl rfl (by decide)) ⟨rfl, trivial⟩ rfl <| .cons (.off (b' := false) rfl rfl rfl rfl (by decide)) ⟨rfl, trivial⟩ rfl <| .cons (.off (b' := false) rfl rfl rfl rfl (by decide)) ⟨rfl, trivial⟩ rfl <| .cons (.off (b' := false) rfl rfl rfl rfl (by decide)) ⟨rfl, trivial⟩ rfl <| .cons (.off (b' := false) rfl rfl rfl rfl (by decide)) ⟨rfl, trivial⟩ rfl <| .cons (.off (b' := false) rfl rfl rfl rfl (by decide)) ⟨rfl, trivial⟩ rfl <| .cons (.off (b' := false) rfl rfl rfl rfl (by decide)) ⟨rfl, trivial⟩ rfl <| .cons (.plain rfl (c_pick (b := false) rfl rfl (by decide) .tmp rfl (.const rfl))) ⟨rfl, trivial⟩ rfl <| .cons (.plain rfl (c_assign rfl rfl (by decide) .tmp)) ⟨rfl, trivial⟩ rfl <| .nil) ?_
          obtain rfl := Option.some.inj h
          show Goes _ _
          exact (Goes.into [] ⟨rfl, rfl, .refl, trivial⟩)
      | false =>
        have h := of_false hc6 h
        refine aw_region (.cons (.plain rfl (c_move rfl rfl (by decide) .tmp)) ⟨rfl, trivial⟩ rfl <| .cons (.plain rfl (c_eql rfl rfl (by decide) .tmp (.const rfl))) ⟨rfl, trivial⟩ rfl <| .cons (.plain rfl (c_move rfl rfl (by decide) .tmp)) ⟨rfl, trivial⟩ rfl <| .cons (.on (t := 25) rfl rfl (c_move rfl rfl (by decide) .tmp)) ⟨(congrArg mB hc5), rfl, trivial⟩ rfl <| .cons (.on (t := 25) rfl rfl (c_eql rfl rfl (by decide) .tmp (.const rfl))) ⟨(congrArg mB hc5), rfl, trivial⟩ rfl <| .cons (.plain rfl (c_pick (b := true) rfl rfl (by decide) .tmp rfl .tmp)) ⟨(congrArg mB hc5), rfl, trivial⟩ rfl <| .cons (.plain rfl (c_move rfl rfl (by decide) .tmp)) ⟨rfl, trivial⟩ rfl <| .cons (.off (b' := false) rfl rfl rfl rfl (by decide)) ⟨(congrArg mB hc6), trivial⟩ rfl <| .cons (.off (b' := false) rfl rfl rfl rfl (by decide)) ⟨(congrArg mB hc6), trivial⟩ rfl <| .cons (.off (b' := false) rfl rfl rfl rfl (by decide)) ⟨(congrArg mB hc6), trivial⟩ rfl <| .cons (.off (b' := false) rfl rfl rfl rfl (by decide)) ⟨(congrArg mB hc6), trivial⟩ rfl <| .cons (.plain rfl (c_pick (b := false) rfl rfl (by decide) .tmp rfl (.const rfl))) ⟨(congrArg mB hc6), trivial⟩ rfl <| .cons (.plain rfl (c_move rfl rfl (by decide) .tmp)) ⟨rfl, trivial⟩ rfl <| .cons (.off (b' := false) rfl rfl rfl rfl (by decide)) ⟨rfl, trivial⟩ rfl <| .cons (.off (b' := false) rfl rfl rfl rfl (by decide)) ⟨rfl, trivial⟩ rfl <| .cons (.off (b' := false) rfl rfl rfl rfl (by decide)) ⟨rfl, trivial⟩ rfl <| .cons (.off (b' := false) rfl rfl rfl rfl (by decide)) ⟨rfl, trivial⟩ rfl <| .cons (.off (b' := false) rfl rfl rfl rfl (by decide)) ⟨rfl, trivial⟩ rfl <| .cons (.off (b' := false) rfl rfl rfl rfl (by decide)) ⟨rfl, trivial⟩ rfl <| .cons (.off (b' := false) rfl rfl rfl rfl (by decide)) ⟨rfl, trivial⟩ rfl <| .cons (.plain rfl (c_pick (b := false) rfl rfl (by decide) .tmp rfl (.const rfl))) ⟨rfl, trivial⟩ rfl <| .cons (.plain rfl (c_move rfl rfl (by decide) .tmp)) ⟨rfl, trivial⟩ rfl <| .cons (.off (b' := false) rfl rfl rfl rfl (by decide)) ⟨rfl, trivial⟩ rfl <| .cons (.off (b' := false) rfl rfl rfl rfl (by decide)) ⟨rfl, trivial⟩ rfl <| .cons (.off (b' := false) rfl rfl rfl rfl (by decide)) ⟨rfl, trivial⟩ rfl <| .cons (.off (b' := false) rfl rfl rfl rfl (by decide)) ⟨rfl, trivial⟩ rfl <| .cons (.off (b' := false) rfl rfl rfl rfl (by decide)) ⟨rfl, trivial⟩ rfl <| .cons (.off (b' := false) rfl rfl rfl rfl (by decide)) ⟨rfl, trivial⟩ rfl <| .cons (.off (b' := false) rfl rfl rfl rfl (by decide)) ⟨rfl, trivial⟩ rfl <| .cons (.plain rfl (c_pick (b := false) rfl rfl (by decide) .tmp rfl (.const rfl))) ⟨rfl, trivial⟩ rfl <| .cons (.plain rfl (c_assign rfl rfl (by decide) .tmp)) ⟨rfl, trivial⟩ rfl <| .nil) ?_
        obtain rfl := Option.some.inj h
        show Goes _ _
        exact (Goes.into [] ⟨rfl, rfl, .refl, trivial⟩)
    | false =>
      have h := of_false hc5 h
      refine aw_region (.cons (.plain rfl (c_move rfl rfl (by decide) .tmp)) ⟨rfl, trivial⟩ rfl <| .cons (.plain rfl (c_eql rfl rfl (by decide) .tmp (.const rfl))) ⟨rfl, trivial⟩ rfl <| .cons (.plain rfl (c_move rfl rfl (by decide) .tmp)) ⟨rfl, trivial⟩ rfl <| .cons (.off (b' := false) rfl rfl rfl rfl (by decide)) ⟨(congrArg mB hc5), trivial⟩ rfl <| .cons (.off (b' := false) rfl rfl rfl rfl (by decide)) ⟨(congrArg mB hc5), trivial⟩ rfl <| .cons (.plain rfl (c_pick (b := false) rfl rfl (by decide) .tmp rfl (.const rfl))) ⟨(congrArg mB hc5), trivial⟩ rfl <| .cons (.plain rfl (c_move rfl rfl (by decide) .tmp)) ⟨rfl, trivial⟩ rfl <| .cons (.off (b' := false) rfl rfl rfl rfl (by decide)) ⟨rfl, trivial⟩ rfl <| .cons (.off (b' := false) rfl rfl rfl rfl (by decide)) ⟨rfl, trivial⟩ rfl <| .cons (.off (b' := false) rfl rfl rfl rfl (by decide)) ⟨rfl, trivial⟩ rfl <| .cons (.off (b' := false) rfl rfl rfl rfl (by decide)) ⟨rfl, trivial⟩ rfl <| .cons (.plain rfl (c_pick (b := false) rfl rfl (by decide) .tmp rfl (.const rfl))) ⟨rfl, trivial⟩ rfl <| .cons (.plain rfl (c_move rfl rfl (by decide) .tmp)) ⟨rfl, trivial⟩ rfl <| .cons (.off (b' := false) rfl rfl rfl rfl (by decide)) ⟨rfl, trivial⟩ rfl <| .cons (.off (b' := false) rfl rfl rfl rfl (by decide)) ⟨rfl, trivial⟩ rfl <| .cons (.off (b' := false) rfl rfl rfl rfl (by decide)) ⟨rfl, trivial⟩ rfl <| .cons (.off (b' := false) rfl rfl rfl rfl (by decide)) ⟨rfl, trivial⟩ rfl <| .cons (.off (b' := false) rfl rfl rfl rfl (by decide)) ⟨rfl, trivial⟩ rfl <| .cons (.off (b' := false) rfl rfl rfl rfl (by decide)) ⟨rfl, trivial⟩ rfl <| .cons (.off (b' := false) rfl rfl rfl rfl (by decide)) ⟨rfl, trivial⟩ rfl <| .cons (.plain rfl (c_pick (b := false) rfl rfl (by decide) .tmp rfl (.const rfl))) ⟨rfl, trivial⟩ rfl <| .cons (.plain rfl (c_move rfl rfl (by decide) .tmp)) ⟨rfl, trivial⟩ rfl <| .cons (.off (b' := false) rfl rfl rfl rfl (by decide)) ⟨rfl, trivial⟩ rfl <| .cons (.off (b' := false) rfl rfl rfl rfl (by decide)) ⟨rfl, trivial⟩ rfl <| .cons (.off (b' := false) rfl rfl rfl rfl (by decide)) ⟨rfl, trivial⟩ rfl <| .cons (.off (b' := false) rfl rfl rfl rfl (by decide)) ⟨rfl, trivial⟩ rfl <| .cons (.off (b' := false) rfl rfl rfl rfl (by decide)) ⟨rfl, trivial⟩ rfl <| .cons (.off (b' := false) rfl rfl rfl rfl (by decide)) ⟨rfl, trivial⟩ rfl <| .cons (.off (b' := false) rfl rfl rfl rfl (by decide)) ⟨rfl, trivial⟩ rfl <| .cons (.plain rfl (c_pick (b := false) rfl rfl (by decide) .tmp rfl (.const rfl))) ⟨rfl, trivial⟩ rfl <| .cons (.plain rfl (c_assign rfl rfl (by decide) .tmp)) ⟨rfl, trivial⟩ rfl <| .nil) ?_
      obtain rfl := Option.some.inj h
      show Goes _ _
      exact (Goes.into [] ⟨rfl, rfl, .refl, trivial⟩)
  · show AW _ _ _ _ _
    refine aw_goes (σ' := [(.tmp 0, .m (.one (.t (.v (.bool v10)))))]) (Goes.into [] ⟨rfl, rfl, .refl, trivial⟩) ?_
    refine aw_ret ?_
    obtain rfl := Option.some.inj h
    exact ⟨.inr rfl, _, [], (.tmp rfl .nil), rfl, rfl, rfl, ⟨rfl, rfl, trivial⟩⟩

def ref15_Few_L1 (p0_2 : List (Int × (List (Int)))) (v6 : Int) : Option (Int ⊕ (Unit ⊕ Bool)) := bif decide (v6 < (p0_2.length : Int)) then (at_ p0_2 v6).bind fun v8 => bif decide (40 < (v8.2.length : Int)) then some (.inr (.inr false)) else some (.inl (wi64 (v6 + 1))) else some (.inr (.inl (())))
def ref15_Few_L2 (p0_3 : List ((List (Int)))) (v13 : Int) : Option (Int ⊕ (Unit ⊕ Bool)) := bif decide (v13 < (p0_3.length : Int)) then (at_ p0_3 v13).bind fun v15 => bif decide (40 < (v15.length : Int)) then some (.inr (.inr false)) else some (.inl (wi64 (v13 + 1))) else some (.inr (.inl (())))
def ref15_Few (p0_0 : List (Int × Int)) (p0_1 : Int) (p0_2 : List (Int × (List (Int)))) (p0_3 : List ((List (Int)))) (p0_4 : Int) : Option Bool := (bif decide (64 < (p0_0.length : Int)) then some true else bif decide (40 < (p0_2.length : Int)) then some true else some (decide (40 < (p0_3.length : Int))) : Option Bool).bind fun v1 => bif v1 then some false else (loopO (ref15_Few_L1 p0_2) fuel 0).bind fun s => s.elim (fun v7 => (loopO (ref15_Few_L2 p0_3) fuel 0).bind fun s => s.elim (fun v14 => some true) (fun j : Bool => some j)) (fun j : Bool => some j)
theorem ref15_Few_calls (p0_0 : List (Int × Int)) (p0_1 : Int) (p0_2 : List (Int × (List (Int)))) (p0_3 : List ((List (Int)))) (p0_4 : Int) (r : Bool) (h : ref15_Few p0_0 p0_1 p0_2 p0_3 p0_4 = some r) : ACalls Try.prog 10 [.agg [.t (.sl (p0_0.map e57)), .t (.v (.int .i64 p0_1)), .t (.sl (p0_2.map e51)), .t (.sl (p0_3.map e42)), .t (.v (.int .u64 p0_4))]] [] (.one (.t (.v (.bool r)))) [] := by
  unfold ref15_Few at h
  refine acalls_of_AW Try.func10 rfl Try.call10 (by decide) (show 1 ≤ 50 by decide) rfl rfl ?_
  refine aw_seq ?_
  refine aw_region (.cons (.plain rfl (k_boxN rfl rfl (by decide) .tmp rfl)) ⟨rfl, trivial⟩ rfl <| .cons (.plain rfl (c_assign rfl rfl (by decide) (.const rfl))) trivial rfl <| .nil) ?_
  show AW _ _ _ _ _
  refine aw_seq ?_
  refine aw_seq ?_
  refine aw_cut0 (fun v1 : Bool => [(.tmp 1, .m (.one (.ptr 1 0))), (.tmp 20, .m (.one (.t (.v (.bool v1))))), (.cell 1 0, .c (.t (.sl (p0_0.map e57)))), (.cell 1 1, .c (.t (.v (.int .i64 p0_1)))), (.cell 1 2, .c (.t (.sl (p0_2.map e51)))), (.cell 1 3, .c (.t (.sl (p0_3.map e42)))), (.cell 1 4, .c (.t (.v (.int .u64 p0_4))))]) h (fun _ h => ?_) (fun v1 h => ?_)
  · cases hc3 : decide (64 < (p0_0.length : Int)) with
    | true =>
      have h := of_true hc3 h
      refine aw_region (.cons (.plain rfl (k_fieldP 22 0 rfl rfl (by decide) Try.underlying27 rfl i22 (by decide) .tmp)) ⟨rfl, trivial⟩ rfl <| .cons (.plain rfl (c_loadCell rfl rfl (by decide) Try.isAgg22 .tmp)) ⟨rfl, rfl, trivial⟩ rfl <| .cons (.plain rfl (k_len (i := Try.t57) (l := p0_0) (f := e57) (fun _ => rfl) (by decide) rfl rfl (by decide) Try.underlying22 (src_tree (f := e57) (fun _ => rfl) (by decide) .tmp))) ⟨rfl, trivial⟩ rfl <| .cons (.plain rfl (c_gtr rfl rfl (by decide) .tmp (.const rfl))) ⟨rfl, trivial⟩ rfl <| .cons (.plain rfl (c_move rfl rfl (by decide) .tmp)) ⟨rfl, trivial⟩ rfl <| .cons (.off (b' := true) rfl rfl rfl rfl (by decide)) ⟨(congrArg mB hc3), trivial⟩ rfl <| .cons (.off (b' := true) rfl rfl rfl rfl (by decide)) ⟨(congrArg mB hc3), trivial⟩ rfl <| .cons (.off (b' := true) rfl rfl rfl rfl (by decide)) ⟨(congrArg mB hc3), trivial⟩ rfl <| .cons (.off (b' := true) rfl rfl rfl rfl (by decide)) ⟨(congrArg mB hc3), trivial⟩ rfl <| .cons (.plain rfl (c_pick (b := true) rfl rfl (by decide) .tmp rfl (.const rfl))) ⟨(congrArg mB hc3), trivial⟩ rfl <| .cons (.plain rfl (c_move rfl rfl (by decide) .tmp)) ⟨rfl, trivial⟩ rfl <| .cons (.off (b' := true) rfl rfl rfl rfl (by decide)) ⟨rfl, trivial⟩ rfl <| .cons (.off (b' := true) rfl rfl rfl rfl (by decide)) ⟨rfl, trivial⟩ rfl <| .cons (.off (b' := true) rfl rfl rfl rfl (by decide)) ⟨rfl, trivial⟩ rfl <| .cons (.off (b' := true) rfl rfl rfl rfl (by decide)) ⟨rfl, trivial⟩ rfl <| .cons (.plain rfl (c_pick (b := true) rfl rfl (by decide) .tmp rfl (.const rfl))) ⟨rfl, trivial⟩ rfl <| .nil) ?_
      obtain rfl := Option.some.inj h
      show Goes _ _
      exact (Goes.into [(1, 1)] ⟨rfl, rfl, .refl, .refl, .refl, .refl, .refl, .refl, .refl, trivial⟩)
    | false =>
      have h := of_false hc3 h
      cases hc4 : decide (40 < (p0_2.length : Int)) with
      | true =>
        have h := of_true hc4 h
        refine aw_region (.cons (.plain rfl (k_fieldP 22 0 rfl rfl (by decide) Try.underlying27 rfl i22 (by decide) .tmp)) ⟨rfl, trivial⟩ rfl <| .cons (.plain rfl (c_loadCell rfl rfl (by decide) Try.isAgg22 .tmp)) ⟨rfl, rfl, trivial⟩ rfl <| .cons (.plain rfl (k_len (i := Try.t57) (l := p0_0) (f := e57) (fun _ => rfl) (by decide) rfl rfl (by decide) Try.underlying22 (src_tree (f := e57) (fun _ => rfl) (by decide) .tmp))) ⟨rfl, trivial⟩ rfl <| .cons (.plain rfl (c_gtr rfl rfl (by decide) .tmp (.const rfl))) ⟨rfl, trivial⟩ rfl <| .cons (.plain rfl (c_move rfl rfl (by decide) .tmp)) ⟨rfl, trivial⟩ rfl <| .cons (.on (t := 9) rfl rfl (k_fieldP 23 2 rfl rfl (by decide) Try.underlying27 rfl i23 (by decide) .tmp)) ⟨(congrArg mB hc3), rfl, trivial⟩ rfl <| .cons (.on (t := 9) rfl rfl (c_loadCell rfl rfl (by decide) Try.isAgg23 .tmp)) ⟨(congrArg mB hc3), rfl, rfl, trivial⟩ rfl <| .cons (.on (t := 9) rfl rfl (k_len (i := Try.t58) (l := p0_2) (f := e51) (fun _ => rfl) (by decide) rfl rfl (by decide) Try.underlying23 (src_tree (f := e51) (fun _ => rfl) (by decide) .tmp))) ⟨(congrArg mB hc3), rfl, trivial⟩ rfl <| .cons (.on (t := 9) rfl rfl (c_gtr rfl rfl (by decide) .tmp (.const rfl))) ⟨(congrArg mB hc3), rfl, trivial⟩ rfl <| .cons (.plain rfl (c_pick (b := false) rfl rfl (by decide) .tmp rfl .tmp)) ⟨(congrArg mB hc3), rfl, trivial⟩ rfl <| .cons (.plain rfl (c_move rfl rfl (by decide) .tmp)) ⟨rfl, trivial⟩ rfl <| .cons (.off (b' := true) rfl rfl rfl rfl (by decide)) ⟨(congrArg mB hc4), trivial⟩ rfl <| .cons (.off (b' := true) rfl rfl rfl rfl (by decide)) ⟨(congrArg mB hc4), trivial⟩ rfl <| .cons (.off (b' := true) rfl rfl rfl rfl (by decide)) ⟨(congrArg mB hc4), trivial⟩ rfl <| .cons (.off (b' := true) rfl rfl rfl rfl (by decide)) ⟨(congrArg mB hc4), trivial⟩ rfl <| .cons (.plain rfl (c_pick (b := true) rfl rfl (by decide) .tmp rfl (.const rfl))) ⟨(congrArg mB hc4), trivial⟩ rfl <| .nil) ?_
        obtain rfl := Option.some.inj h
        show Goes _ _
        exact (Goes.into [(1, 1)] ⟨rfl, rfl, .refl, .refl, .refl, .refl, .refl, .refl, .refl, trivial⟩)
      | false =>
        have h := of_false hc4 h
        refine aw_region (.cons (.plain rfl (k_fieldP 22 0 rfl rfl (by decide) Try.underlying27 rfl i22 (by decide) .tmp)) ⟨rfl, trivial⟩ rfl <| .cons (.plain rfl (c_loadCell rfl rfl (by decide) Try.isAgg22 .tmp)) ⟨rfl, rfl, trivial⟩ rfl <| .cons (.plain rfl (k_len (i := Try.t57) (l := p0_0) (f := e57) (fun _ => rfl) (by decide) rfl rfl (by decide) Try.underlying22 (src_tree (f := e57) (fun _ => rfl) (by decide) .tmp))) ⟨rfl, trivial⟩ rfl <| .cons (.plain rfl (c_gtr rfl rfl (by decide) .tmp (.const rfl))) ⟨rfl, trivial⟩ rfl <| .cons (.plain rfl (c_move rfl rfl (by decide) .tmp)) ⟨rfl, trivial⟩ rfl <| .cons (.on (t := 9) rfl rfl (k_fieldP 23 2 rfl rfl (by decide) Try.underlying27 rfl i23 (by decide) .tmp)) ⟨(congrArg mB hc3), rfl, trivial⟩ rfl <| .cons (.on (t := 9) rfl rfl (c_loadCell rfl rfl (by decide) Try.isAgg23 .tmp)) ⟨(congrArg mB hc3), rfl, rfl, trivial⟩ rfl <| .cons (.on (t := 9) rfl rfl (k_len (i := Try.t58) (l := p0_2) (f := e51) (fun _ => rfl) (by decide) rfl rfl (by decide) Try.underlying23 (src_tree (f := e51) (fun _ => rfl) (by decide) .tmp))) ⟨(congrArg mB hc3), rfl, trivial⟩ rfl <| .cons (.on (t := 9) rfl rfl (c_gtr rfl rfl (by decide) .tmp (.const rfl))) ⟨(congrArg mB hc3), rfl, trivial⟩ rfl <| .cons (.plain rfl (c_pick (b := false) rfl rfl (by decide) .tmp rfl .tmp)) ⟨(congrArg mB hc3), rfl, trivial⟩ rfl <| .cons (.plain rfl (c_move rfl rfl (by decide) .tmp)) ⟨rfl, trivial⟩ rfl <| .cons (.on (t := 15) rfl rfl (k_fieldP 24 3 rfl rfl (by decide) Try.underlying27 rfl i24 (by decide) .tmp)) ⟨(congrArg mB hc4), rfl, trivial⟩ rfl <| .cons (.on (t := 15) rfl rfl (c_loadCell rfl rfl (by decide) Try.isAgg24 .tmp)) ⟨(congrArg mB hc4), rfl, rfl, trivial⟩ rfl <| .cons (.on (t := 15) rfl rfl (k_len (i := Try.t42) (l := p0_3) (f := e42) (fun _ => rfl) (by decide) rfl rfl (by decide) Try.underlying24 (src_tree (f := e42) (fun _ => rfl) (by decide) .tmp))) ⟨(congrArg mB hc4), rfl, trivial⟩ rfl <| .cons (.on (t := 15) rfl rfl (c_gtr rfl rfl (by decide) .tmp (.const rfl))) ⟨(congrArg mB hc4), rfl, trivial⟩ rfl <| .cons (.plain rfl (c_pick (b := false) rfl rfl (by decide) .tmp rfl .tmp)) ⟨(congrArg mB hc4), rfl, trivial⟩ rfl <| .nil) ?_
        obtain rfl := Option.some.inj h
        show Goes _ _
        exact (Goes.into [(1, 1)] ⟨rfl, rfl, .refl, .refl, .refl, .refl, .refl, .refl, .refl, trivial⟩)
  · show AW _ _ _ _ _
    refine aw_cond .tmp ⟨rfl, trivial⟩ (fun hc5 => ?_) (fun hc5 => ?_)
    · have h := of_true hc5 h
      refine aw_seq ?_
      refine aw_region (.cons (.plain rfl (c_assign rfl rfl (by decide) (.const rfl))) trivial rfl <| .nil) ?_
      show AW _ _ _ _ _
      refine aw_goes (σ' := [(.tmp 2, .m (.one (.t (.v (.bool false)))))]) (Goes.into [] ⟨rfl, rfl, .refl, trivial⟩) ?_
      refine aw_ret ?_
      obtain rfl := Option.some.inj h
      exact ⟨.inr rfl, _, [], (.tmp rfl .nil), rfl, rfl, rfl, ⟨rfl, rfl, trivial⟩⟩
    · have h := of_false hc5 h
      refine aw_skip ?_
      show AW _ _ _ _ _
      refine aw_seq ?_
      refine aw_seq ?_
      refine aw_region (.cons (.plain rfl (c_assign rfl rfl (by decide) (.const rfl))) trivial rfl <| .nil) ?_
      show AW _ _ _ _ _
      refine aw_loopJ (fun v6 : Int => [(.tmp 1, .m (.one (.ptr 1 0))), (.tmp 3, .m (.one (.t (.v (.int .i64 v6))))), (.cell 1 0, .c (.t (.sl (p0_0.map e57)))), (.cell 1 1, .c (.t (.v (.int .i64 p0_1)))), (.cell 1 2, .c (.t (.sl (p0_2.map e51)))), (.cell 1 3, .c (.t (.sl (p0_3.map e42)))), (.cell 1 4, .c (.t (.v (.int .u64 p0_4))))]) (fun v7 : Unit => [(.tmp 1, .m (.one (.ptr 1 0))), (.cell 1 0, .c (.t (.sl (p0_0.map e57)))), (.cell 1 1, .c (.t (.v (.int .i64 p0_1)))), (.cell 1 2, .c (.t (.sl (p0_2.map e51)))), (.cell 1 3, .c (.t (.sl (p0_3.map e42)))), (.cell 1 4, .c (.t (.v (.int .u64 p0_4))))]) h (Goes.into [(1, 1)] ⟨rfl, rfl, .refl, .refl, .refl, .refl, .refl, .refl, .refl, trivial⟩) (fun v6 _ h => ?_) (fun v7 h => ?_)
      · unfold ref15_Few_L1 at h
        refine aw_seq ?_
        refine aw_seq ?_
        refine aw_region (.cons (.plain rfl (c_move rfl rfl (by decide) .tmp)) ⟨rfl, trivial⟩ rfl <| .cons (.plain rfl (k_fieldP 23 2 rfl rfl (by decide) Try.underlying27 rfl i23 (by decide) .tmp)) ⟨rfl, trivial⟩ rfl <| .cons (.plain rfl (c_loadCell rfl rfl (by decide) Try.isAgg23 .tmp)) ⟨rfl, rfl, trivial⟩ rfl <| .cons (.plain rfl (k_len (i := Try.t58) (l := p0_2) (f := e51) (fun _ => rfl) (by decide) rfl rfl (by decide) Try.underlying23 (src_tree (f := e51) (fun _ => rfl) (by decide) .tmp))) ⟨rfl, trivial⟩ rfl <| .cons (.plain rfl (c_lss rfl rfl (by decide) .tmp .tmp)) ⟨rfl, rfl, trivial⟩ rfl <| .nil) ?_
        show AW _ _ _ _ _
        refine aw_cond .tmp ⟨rfl, trivial⟩ (fun hc10 => ?_) (fun hc10 => ?_)
        · have h := of_true hc10 h
          refine aw_skip ?_
          show AW _ _ _ _ _
          refine aw_seq ?_
          refine aw_block ?_
          refine aw_seq ?_
          obtain ⟨v8, hv8, h⟩ := bind_some h
          refine aw_region (.cons (.plain rfl (k_fieldP 23 2 rfl rfl (by decide) Try.underlying27 rfl i23 (by decide) .tmp)) ⟨rfl, trivial⟩ rfl <| .cons (.plain rfl (c_loadCell rfl rfl (by decide) Try.isAgg23 .tmp)) ⟨rfl, rfl, trivial⟩ rfl <| .cons (.plain rfl (c_move rfl rfl (by decide) .tmp)) ⟨rfl, trivial⟩ rfl <| .cons (.plain rfl (k_index (f := e51) (i := Try.t58) hv8 rfl rfl rfl (by decide) Try.underlying23 i58 .tmp .tmp)) ⟨rfl, rfl, trivial⟩ rfl <| .cons (.plain rfl (k_fieldT 42 1 rfl rfl (by decide) Try.underlying58 rfl i42 (by decide) .tmp)) ⟨rfl, trivial⟩ rfl <| .cons (.plain rfl (c_loadTree rfl rfl (by decide) Try.isAgg42 .tmp rfl)) ⟨rfl, trivial⟩ rfl <| .cons (.plain rfl (k_len (i := Try.t3) (l := v8.2) (f := e3) (fun _ => rfl) (by decide) rfl rfl (by decide) Try.underlying42 (src_tree (f := e3) (fun _ => rfl) (by decide) .tmp))) ⟨rfl, trivial⟩ rfl <| .cons (.plain rfl (c_gtr rfl rfl (by decide) .tmp (.const rfl))) ⟨rfl, trivial⟩ rfl <| .nil) ?_
          show AW _ _ _ _ _
          refine aw_cond .tmp ⟨rfl, trivial⟩ (fun hc11 => ?_) (fun hc11 => ?_)
          · have h := of_true hc11 h
            refine aw_seq ?_
            refine aw_region (.cons (.plain rfl (c_assign rfl rfl (by decide) (.const rfl))) trivial rfl <| .nil) ?_
            show AW _ _ _ _ _
            refine aw_goes (σ' := [(.tmp 2, .m (.one (.t (.v (.bool false)))))]) (Goes.into [] ⟨rfl, rfl, .refl, trivial⟩) ?_
            refine aw_ret ?_
            obtain rfl := Option.some.inj h
            refine ⟨_, rfl, fun h => ?_⟩
            obtain rfl := Option.some.inj h
            exact ⟨.inr rfl, _, [], (.tmp rfl .nil), rfl, rfl, rfl, ⟨rfl, rfl, trivial⟩⟩
          · have h := of_false hc11 h
            refine aw_skip ?_
            show AW _ _ _ _ _
            refine aw_region (.cons (.plain rfl (c_move rfl rfl (by decide) .tmp)) ⟨rfl, trivial⟩ rfl <| .cons (.plain rfl (c_add rfl rfl (by decide) .tmp (.const rfl))) ⟨rfl, trivial⟩ rfl <| .cons (.plain rfl (c_assign rfl rfl (by decide) .tmp)) ⟨rfl, trivial⟩ rfl <| .nil) ?_
            obtain rfl := Option.some.inj h
            exact ⟨_, rfl, (Goes.into [(1, 1)] ⟨rfl, rfl, .refl, .refl, .refl, .refl, .refl, .refl, .refl, trivial⟩)⟩
        · have h := of_false hc10 h
          refine aw_exit ?_
          obtain rfl := Option.some.inj h
          exact ⟨_, rfl, (Goes.into [(1, 1)] ⟨rfl, rfl, .refl, .refl, .refl, .refl, .refl, .refl, trivial⟩)⟩
      · show AW _ _ _ _ _
        refine aw_seq ?_
        refine aw_seq ?_
        refine aw_region (.cons (.plain rfl (c_assign rfl rfl (by decide) (.const rfl))) trivial rfl <| .nil) ?_
        show AW _ _ _ _ _
        refine aw_loopJ (fun v13 : Int => [(.tmp 1, .m (.one (.ptr 1 0))), (.tmp 4, .m (.one (.t (.v (.int .i64 v13))))), (.cell 1 0, .c (.t (.sl (p0_0.map e57)))), (.cell 1 1, .c (.t (.v (.int .i64 p0_1)))), (.cell 1 2, .c (.t (.sl (p0_2.map e51)))), (.cell 1 3, .c (.t (.sl (p0_3.map e42)))), (.cell 1 4, .c (.t (.v (.int .u64 p0_4))))]) (fun v14 : Unit => []) h (Goes.into [(1, 1)] ⟨rfl, rfl, .refl, .refl, .refl, .refl, .refl, .refl, .refl, trivial⟩) (fun v13 _ h => ?_) (fun v14 h => ?_)
        · unfold ref15_Few_L2 at h
          refine aw_seq ?_
          refine aw_seq ?_
          refine aw_region (.cons (.plain rfl (c_move rfl rfl (by decide) .tmp)) ⟨rfl, trivial⟩ rfl <| .cons (.plain rfl (k_fieldP 24 3 rfl rfl (by decide) Try.underlying27 rfl i24 (by decide) .tmp)) ⟨rfl, trivial⟩ rfl <| .cons (.plain rfl (c_loadCell rfl rfl (by decide) Try.isAgg24 .tmp)) ⟨rfl, rfl, trivial⟩ rfl <| .cons (.plain rfl (k_len (i := Try.t42) (l := p0_3) (f := e42) (fun _ => rfl) (by decide) rfl rfl (by decide) Try.underlying24 (src_tree (f := e42) (fun _ => rfl) (by decide) .tmp))) ⟨rfl, trivial⟩ rfl <| .cons (.plain rfl (c_lss rfl rfl (by decide) .tmp .tmp)) ⟨rfl, rfl, trivial⟩ rfl <| .nil) ?_
          show AW _ _ _ _ _
          refine aw_cond .tmp ⟨rfl, trivial⟩ (fun hc16 => ?_) (fun hc16 => ?_)
          · have h := of_true hc16 h
            refine aw_skip ?_
            show AW _ _ _ _ _
            refine aw_seq ?_
            refine aw_block ?_
            refine aw_seq ?_
            obtain ⟨v15, hv15, h⟩ := bind_some h
            refine aw_region (.cons (.plain rfl (k_fieldP 24 3 rfl rfl (by decide) Try.underlying27 rfl i24 (by decide) .tmp)) ⟨rfl, trivial⟩ rfl <| .cons (.plain rfl (c_loadCell rfl rfl (by decide) Try.isAgg24 .tmp)) ⟨rfl, rfl, trivial⟩ rfl <| .cons (.plain rfl (c_move rfl rfl (by decide) .tmp)) ⟨rfl, trivial⟩ rfl <| .cons (.plain rfl (k_index (f := e42) (i := Try.t42) hv15 rfl rfl rfl (by decide) Try.underlying24 i42 .tmp .tmp)) ⟨rfl, rfl, trivial⟩ rfl <| .cons (.plain rfl (c_loadTree rfl rfl (by decide) Try.isAgg42 .tmp rfl)) ⟨rfl, trivial⟩ rfl <| .cons (.plain rfl (k_len (i := Try.t3) (l := v15) (f := e3) (fun _ => rfl) (by decide) rfl rfl (by decide) Try.underlying42 (src_tree (f := e3) (fun _ => rfl) (by decide) .tmp))) ⟨rfl, trivial⟩ rfl <| .cons (.plain rfl (c_gtr rfl rfl (by decide) .tmp (.const rfl))) ⟨rfl, trivial⟩ rfl <| .nil) ?_
            show AW _ _ _ _ _
            refine aw_cond .tmp ⟨rfl, trivial⟩ (fun hc17 => ?_) (fun hc17 => ?_)
            · have h := of_true hc17 h
              refine aw_seq ?_
              refine aw_region (.cons (.plain rfl (c_assign rfl rfl (by decide) (.const rfl))) trivial rfl <| .nil) ?_
              show AW _ _ _ _ _
              refine aw_goes (σ' := [(.tmp 2, .m (.one (.t (.v (.bool false)))))]) (Goes.into [] ⟨rfl, rfl, .refl, trivial⟩) ?_
              refine aw_ret ?_
              obtain rfl := Option.some.inj h
              refine ⟨_, rfl, fun h => ?_⟩
              obtain rfl := Option.some.inj h
              exact ⟨.inr rfl, _, [], (.tmp rfl .nil), rfl, rfl, rfl, ⟨rfl, rfl, trivial⟩⟩
            · have h := of_false hc17 h
              refine aw_skip ?_
              show AW _ _ _ _ _
              refine aw_region (.cons (.plain rfl (c_move rfl rfl (by decide) .tmp)) ⟨rfl, trivial⟩ rfl <| .cons (.plain rfl (c_add rfl rfl (by decide) .tmp (.const rfl))) ⟨rfl, trivial⟩ rfl <| .cons (.plain rfl (c_assign rfl rfl (by decide) .tmp)) ⟨rfl, trivial⟩ rfl <| .nil) ?_
              obtain rfl := Option.some.inj h
              exact ⟨_, rfl, (Goes.into [(1, 1)] ⟨rfl, rfl, .refl, .refl, .refl, .refl, .refl, .refl, .refl, trivial⟩)⟩
          · have h := of_false hc16 h
            refine aw_exit ?_
            obtain rfl := Option.some.inj h
            exact ⟨_, rfl, (Goes.into [] ⟨rfl, rfl, trivial⟩)⟩
        · show AW _ _ _ _ _
          refine aw_seq ?_
          refine aw_region (.cons (.plain rfl (c_assign rfl rfl (by decide) (.const rfl))) trivial rfl <| .nil) ?_
          show AW _ _ _ _ _
          refine aw_goes (σ' := [(.tmp 2, .m (.one (.t (.v (.bool true)))))]) (Goes.into [] ⟨rfl, rfl, .refl, trivial⟩) ?_
          refine aw_ret ?_
          obtain rfl := Option.some.inj h
          exact ⟨.inr rfl, _, [], (.tmp rfl .nil), rfl, rfl, rfl, ⟨rfl, rfl, trivial⟩⟩

def law17_made_L1 (p0_2 : List (Int × (List (Int)))) (v11 : (Int × (List (Int × (List (Int)))))) : Option ((Int × (List (Int × (List (Int))))) ⊕ List (Int × (List (Int)))) := bif decide (v11.1 < (p0_2.length : Int)) then (at_ p0_2 v11.1).bind fun v13 => (at_ p0_2 v11.1).bind fun v14 => (app_ (([] : List (Int))) v14.2).bind fun v15 => (app_ v11.2 [(v13.1, v15)]).bind fun v16 => some (.inl ((wi64 (v11.1 + 1), v16))) else some (.inr v11.2)
def law17_made_L2 (p0_3 : List ((List (Int)))) (v25 : (Int × (List ((List (Int)))))) : Option ((Int × (List ((List (Int))))) ⊕ List ((List (Int)))) := bif decide (v25.1 < (p0_3.length : Int)) then (at_ p0_3 v25.1).bind fun v27 => (app_ (([] : List (Int))) v27).bind fun v28 => (app_ v25.2 [v28]).bind fun v29 => some (.inl ((wi64 (v25.1 + 1), v29))) else some (.inr v25.2)
def law17_made (p0_0 : List (Int × Int)) (p0_1 : Int) (p0_2 : List (Int × (List (Int)))) (p0_3 : List ((List (Int)))) (p0_4 : Int) : Option (((List (Int × Int)) × Int × (List (Int × (List (Int)))) × (List ((List (Int)))) × Int)) := (loopO (law17_made_L1 p0_2) fuel ((0, ([] : List (Int × (List (Int))))))).bind fun v12 => (loopO (law17_made_L2 p0_3) fuel ((0, ([] : List ((List (Int))))))).bind fun v26 => some ((p0_0, p0_1, v12, v26, p0_4))
theorem law17_made_calls (p0_0 : List (Int × Int)) (p0_1 : Int) (p0_2 : List (Int × (List (Int)))) (p0_3 : List ((List (Int)))) (p0_4 : Int) (r : ((List (Int × Int)) × Int × (List (Int × (List (Int)))) × (List ((List (Int)))) × Int)) (h : law17_made p0_0 p0_1 p0_2 p0_3 p0_4 = some r) : ACalls Try.prog 11 [.agg [.t (.sl (p0_0.map e57)), .t (.v (.int .i64 p0_1)), .t (.sl (p0_2.map e51)), .t (.sl (p0_3.map e42)), .t (.v (.int .u64 p0_4))]] [] (.agg [.t (.sl (r.1.map e57)), .t (.v (.int .i64 r.2.1)), .t (.sl (r.2.2.1.map e51)), .t (.sl (r.2.2.2.1.map e42)), .t (.v (.int .u64 r.2.2.2.2))]) [] := by
  unfold law17_made at h
  refine acalls_of_AW Try.func11 rfl Try.call11 (by decide) (show 1 ≤ 60 by decide) rfl rfl ?_
  refine aw_seq ?_
  refine aw_region (.cons (.plain rfl (k_boxN rfl rfl (by decide) .tmp rfl)) ⟨rfl, trivial⟩ rfl <| .cons (.plain rfl (c_alloc rfl rfl (by decide) i33 rfl rfl rfl)) trivial rfl <| .nil) ?_
  show AW _ _ _ _ _
  refine aw_seq ?_
  refine aw_region (.cons (.plain rfl (k_fieldP 22 0 rfl rfl (by decide) Try.underlying27 rfl i22 (by decide) .tmp)) ⟨rfl, trivial⟩ rfl <| .cons (.plain rfl (c_loadCell rfl rfl (by decide) Try.isAgg22 .tmp)) ⟨rfl, rfl, trivial⟩ rfl <| .cons (.plain rfl (k_fieldP 3 1 rfl rfl (by decide) Try.underlying27 rfl i3 (by decide) .tmp)) ⟨rfl, trivial⟩ rfl <| .cons (.plain rfl (c_loadCell rfl rfl (by decide) Try.isAgg3 .tmp)) ⟨rfl, rfl, trivial⟩ rfl <| .cons (.plain rfl (k_fieldP 25 4 rfl rfl (by decide) Try.underlying27 rfl i25 (by decide) .tmp)) ⟨rfl, trivial⟩ rfl <| .cons (.plain rfl (c_loadCell rfl rfl (by decide) Try.isAgg25 .tmp)) ⟨rfl, rfl, trivial⟩ rfl <| .cons (.plain rfl (c_build rfl rfl (by decide) Try.underlying33 i33 rfl rfl rfl rfl (.c1 .tmp (.c1 .tmp (.c1 .tmp .nil))) rfl)) ⟨rfl, rfl, rfl, trivial⟩ rfl <| .cons (.plain rfl (c_alloc rfl rfl (by decide) i33 rfl rfl rfl)) trivial rfl <| .cons (.plain rfl (c_storeBox (cs0 := [.t (.v (.slice none 0 0)), .t (.v (.int .i64 0)), .t (.v (.slice none 0 0)), .t (.v (.slice none 0 0)), .t (.v (.int .u64 0))]) (cs := [.t (.sl (p0_0.map e57)), .t (.v (.int .i64 p0_1)), .t (.v (.slice none 0 0)), .t (.v (.slice none 0 0)), .t (.v (.int .u64 p0_4))]) rfl rfl i33 rfl rfl .tmp .tmp)) ⟨rfl, rfl, rfl, rfl, rfl, rfl, rfl, trivial⟩ rfl <| .nil) ?_
  show AW _ _ _ _ _
  refine aw_seq ?_
  refine aw_seq ?_
  refine aw_region (.cons (.plain rfl (c_assign rfl rfl (by decide) (.const rfl))) trivial rfl <| .nil) ?_
  show AW _ _ _ _ _
  refine aw_loop0 (fun v11 : (Int × (List (Int × (List (Int))))) => [(.tmp 1, .m (.one (.ptr 1 0))), (.tmp 2, .m (.one (.ptr 2 0))), (.tmp 3, .m (.one (.ptr 3 0))), (.tmp 4, .m (.one (.t (.v (.int .i64 v11.1))))), (.cell 1 0, .c (.t (.sl (p0_0.map e57)))), (.cell 1 1, .c (.t (.v (.int .i64 p0_1)))), (.cell 1 2, .c (.t (.sl (p0_2.map e51)))), (.cell 1 3, .c (.t (.sl (p0_3.map e42)))), (.cell 1 4, .c (.t (.v (.int .u64 p0_4)))), (.cell 2 0, .c (.t (.v (.slice none 0 0)))), (.cell 2 1, .c (.t (.v (.int .i64 0)))), (.cell 2 2, .c (.t (.v (.slice none 0 0)))), (.cell 2 3, .c (.t (.v (.slice none 0 0)))), (.cell 2 4, .c (.t (.v (.int .u64 0)))), (.cell 3 0, .c (.t (.sl (p0_0.map e57)))), (.cell 3 1, .c (.t (.v (.int .i64 p0_1)))), (.cell 3 2, .c (.row 500002)), (.cell 3 3, .c (.t (.v (.slice none 0 0)))), (.cell 3 4, .c (.t (.v (.int .u64 p0_4)))), (.row 500002, .r 51 2 (v11.2.map e51))]) (fun v12 : List (Int × (List (Int))) => [(.tmp 1, .m (.one (.ptr 1 0))), (.tmp 2, .m (.one (.ptr 2 0))), (.tmp 3, .m (.one (.ptr 3 0))), (.cell 1 0, .c (.t (.sl (p0_0.map e57)))), (.cell 1 1, .c (.t (.v (.int .i64 p0_1)))), (.cell 1 2, .c (.t (.sl (p0_2.map e51)))), (.cell 1 3, .c (.t (.sl (p0_3.map e42)))), (.cell 1 4, .c (.t (.v (.int .u64 p0_4)))), (.cell 2 0, .c (.t (.v (.slice none 0 0)))), (.cell 2 1, .c (.t (.v (.int .i64 0)))), (.cell 2 2, .c (.t (.v (.slice none 0 0)))), (.cell 2 3, .c (.t (.v (.slice none 0 0)))), (.cell 2 4, .c (.t (.v (.int .u64 0)))), (.cell 3 0, .c (.t (.sl (p0_0.map e57)))), (.cell 3 1, .c (.t (.v (.int .i64 p0_1)))), (.cell 3 2, .c (.row 500004)), (.cell 3 3, .c (.t (.v (.slice none 0 0)))), (.cell 3 4, .c (.t (.v (.int .u64 p0_4)))), (.row 500004, .r 51 2 (v12.map e51))]) h (Goes.trans (Goes.nilRowC (b := 3) (j := 2) (n := 500017) 51 2 (by decide) rfl (by decide) rfl) (Goes.into [(1, 1), (2, 2), (3, 3), (500002, 500017)] ⟨rfl, rfl, .refl, .refl, .refl, .refl, .refl, .refl, .refl, .refl, .refl, .refl, .refl, .refl, .refl, .refl, .refl, .refl, .refl, .refl, .refl, .refl, trivial⟩)) (fun v11 _ h => ?_) (fun v12 h => ?_)
  · unfold law17_made_L1 at h
    refine aw_seq ?_
    refine aw_seq ?_
    refine aw_region (.cons (.plain rfl (c_move rfl rfl (by decide) .tmp)) ⟨rfl, trivial⟩ rfl <| .cons (.plain rfl (k_fieldP 23 2 rfl rfl (by decide) Try.underlying27 rfl i23 (by decide) .tmp)) ⟨rfl, trivial⟩ rfl <| .cons (.plain rfl (c_loadCell rfl rfl (by decide) Try.isAgg23 .tmp)) ⟨rfl, rfl, trivial⟩ rfl <| .cons (.plain rfl (k_len (i := Try.t58) (l := p0_2) (f := e51) (fun _ => rfl) (by decide) rfl rfl (by decide) Try.underlying23 (src_tree (f := e51) (fun _ => rfl) (by decide) .tmp))) ⟨rfl, trivial⟩ rfl <| .cons (.plain rfl (c_lss rfl rfl (by decide) .tmp .tmp)) ⟨rfl, rfl, trivial⟩ rfl <| .nil) ?_
    show AW _ _ _ _ _
    refine aw_cond .tmp ⟨rfl, trivial⟩ (fun hc3 => ?_) (fun hc3 => ?_)
    · have h := of_true hc3 h
      refine aw_skip ?_
      show AW _ _ _ _ _
      refine aw_seq ?_
      refine aw_block ?_
      obtain ⟨v13, hv13, h⟩ := bind_some h
      obtain ⟨v14, hv14, h⟩ := bind_some h
      obtain ⟨v15, hv15, h⟩ := bind_some h
      obtain ⟨v16, hv16, h⟩ := bind_some h
      refine aw_region_draw mixed (.cons (.plain rfl (k_fieldP 30 2 rfl rfl (by decide) Try.underlying33 rfl i30 (by decide) .tmp)) ⟨rfl, trivial⟩ rfl <| .cons (.plain rfl (c_loadCell rfl rfl (by decide) Try.isAgg30 .tmp)) ⟨rfl, rfl, trivial⟩ rfl <| .cons (.plain rfl (k_fieldP 23 2 rfl rfl (by decide) Try.underlying27 rfl i23 (by decide) .tmp)) ⟨rfl, trivial⟩ rfl <| .cons (.plain rfl (c_loadCell rfl rfl (by decide) Try.isAgg23 .tmp)) ⟨rfl, rfl, trivial⟩ rfl <| .cons (.plain rfl (c_move rfl rfl (by decide) .tmp)) ⟨rfl, trivial⟩ rfl <| .cons (.plain rfl (k_index (f := e51) (i := Try.t58) hv13 rfl rfl rfl (by decide) Try.underlying23 i58 .tmp .tmp)) ⟨rfl, rfl, trivial⟩ rfl <| .cons (.plain rfl (k_fieldT 3 0 rfl rfl (by decide) Try.underlying58 rfl i3 (by decide) .tmp)) ⟨rfl, trivial⟩ rfl <| .cons (.plain rfl (c_loadTree rfl rfl (by decide) Try.isAgg3 .tmp rfl)) ⟨rfl, trivial⟩ rfl <| .cons (.plain rfl (c_buildSlice (sz := 1) (es := (([] : List (Int))).map e3) rfl rfl (by decide) Try.underlying42 i3 rfl rfl rfl rfl (by decide) .nil rfl (emb_len (f := e3) (n := 1) (fun _ => rfl) _) (by decide))) trivial rfl <| .cons (.plain rfl (k_fieldP 23 2 rfl rfl (by decide) Try.underlying27 rfl i23 (by decide) .tmp)) ⟨rfl, trivial⟩ rfl <| .cons (.plain rfl (c_loadCell rfl rfl (by decide) Try.isAgg23 .tmp)) ⟨rfl, rfl, trivial⟩ rfl <| .cons (.plain rfl (c_move rfl rfl (by decide) .tmp)) ⟨rfl, trivial⟩ rfl <| .cons (.plain rfl (k_index (f := e51) (i := Try.t58) hv14 rfl rfl rfl (by decide) Try.underlying23 i58 .tmp .tmp)) ⟨rfl, rfl, trivial⟩ rfl <| .cons (.plain rfl (k_fieldT 42 1 rfl rfl (by decide) Try.underlying58 rfl i42 (by decide) .tmp)) ⟨rfl, trivial⟩ rfl <| .cons (.plain rfl (c_loadTree rfl rfl (by decide) Try.isAgg42 .tmp rfl)) ⟨rfl, trivial⟩ rfl <| .cons (.plain rfl (.frozen (by simp [killed, Loc.names, Val.names]) (k_appendRow (f := e3) hv15 (by decide) (by decide) rfl rfl (by decide) Try.underlying42 i3 rfl rfl rfl rfl (by decide) .tmp (src_tree (f := e3) (fun _ => rfl) (by decide) .tmp)))) ⟨rfl, rfl, rfl, trivial⟩ rfl <| .cons (.plain rfl (c_build rfl rfl (by decide) Try.underlying51 i51 rfl rfl rfl rfl (.c1 .tmp (.c1 .tmp .nil)) rfl)) ⟨rfl, rfl, trivial⟩ rfl <| .cons (.plain rfl (.frozen (by simp) (c_buildSlice (sz := 2) (es := [(v13.1, v15)].map e51) rfl rfl (by decide) Try.underlying30 i51 rfl rfl rfl rfl (by decide) (.cN [.v (.int .i64 v13.1), .sl (v15.map e3)] .tmp .nil) rfl (emb_len (f := e51) (n := 2) (fun _ => rfl) _) (by decide)))) ⟨rfl, trivial⟩ rfl <| .cons (.plain rfl (k_appendRow (f := e51) hv16 (by decide) (by decide) rfl rfl (by decide) Try.underlying30 i51 rfl rfl rfl rfl (by decide) .tmp (src_tree (f := e51) (fun _ => rfl) (by decide) .tmp))) ⟨rfl, rfl, rfl, trivial⟩ rfl <| .cons (.plain rfl (k_fieldP 30 2 rfl rfl (by decide) Try.underlying33 rfl i30 (by decide) .tmp)) ⟨rfl, trivial⟩ rfl <| .cons (.plain rfl (c_store rfl rfl i30 rfl .tmp .tmp)) ⟨rfl, rfl, rfl, trivial⟩ rfl <| .nil) rfl rfl ?_
      show AW _ _ _ _ _
      refine aw_region (.cons (.plain rfl (c_move rfl rfl (by decide) .tmp)) ⟨rfl, trivial⟩ rfl <| .cons (.plain rfl (c_add rfl rfl (by decide) .tmp (.const rfl))) ⟨rfl, trivial⟩ rfl <| .cons (.plain rfl (c_assign rfl rfl (by decide) .tmp)) ⟨rfl, trivial⟩ rfl <| .nil) ?_
      obtain rfl := Option.some.inj h
      exact ⟨_, rfl, (Goes.into [(1, 1), (2, 2), (3, 3), (500002, 38)] ⟨rfl, rfl, .refl, .refl, .refl, .refl, .refl, .refl, .refl, .refl, .refl, .refl, .refl, .refl, .refl, .refl, .refl, .refl, .refl, .refl, .refl, .refl, trivial⟩)⟩
    · have h := of_false hc3 h
      refine aw_exit ?_
      obtain rfl := Option.some.inj h
      exact ⟨rfl, _, rfl, (Goes.into [(1, 1), (2, 2), (3, 3), (500004, 500002)] ⟨rfl, rfl, .refl, .refl, .refl, .refl, .refl, .refl, .refl, .refl, .refl, .refl, .refl, .refl, .refl, .refl, .refl, .refl, .refl, .refl, .refl, trivial⟩)⟩
  · show AW _ _ _ _ _
    refine aw_seq ?_
    refine aw_seq ?_
    refine aw_region (.cons (.plain rfl (c_assign rfl rfl (by decide) (.const rfl))) trivial rfl <| .nil) ?_
    show AW _ _ _ _ _
    refine aw_loop0 (fun v25 : (Int × (List ((List (Int))))) => [(.tmp 1, .m (.one (.ptr 1 0))), (.tmp 2, .m (.one (.ptr 2 0))), (.tmp 3, .m (.one (.ptr 3 0))), (.tmp 5, .m (.one (.t (.v (.int .i64 v25.1))))), (.cell 1 0, .c (.t (.sl (p0_0.map e57)))), (.cell 1 1, .c (.t (.v (.int .i64 p0_1)))), (.cell 1 2, .c (.t (.sl (p0_2.map e51)))), (.cell 1 3, .c (.t (.sl (p0_3.map e42)))), (.cell 1 4, .c (.t (.v (.int .u64 p0_4)))), (.cell 2 0, .c (.t (.v (.slice none 0 0)))), (.cell 2 1, .c (.t (.v (.int .i64 0)))), (.cell 2 2, .c (.t (.v (.slice none 0 0)))), (.cell 2 3, .c (.t (.v (.slice none 0 0)))), (.cell 2 4, .c (.t (.v (.int .u64 0)))), (.cell 3 0, .c (.t (.sl (p0_0.map e57)))), (.cell 3 1, .c (.t (.v (.int .i64 p0_1)))), (.cell 3 2, .c (.row 500008)), (.cell 3 3, .c (.row 500009)), (.cell 3 4, .c (.t (.v (.int .u64 p0_4)))), (.row 500008, .r 51 2 (v12.map e51)), (.row 500009, .r 42 1 (v25.2.map e42))]) (fun v26 : List ((List (Int))) => [(.tmp 2, .m (.one (.ptr 2 0))), (.tmp 3, .m (.one (.ptr 3 0))), (.cell 2 0, .c (.t (.v (.slice none 0 0)))), (.cell 2 1, .c (.t (.v (.int .i64 0)))), (.cell 2 2, .c (.t (.v (.slice none 0 0)))), (.cell 2 3, .c (.t (.v (.slice none 0 0)))), (.cell 2 4, .c (.t (.v (.int .u64 0)))), (.cell 3 0, .c (.t (.sl (p0_0.map e57)))), (.cell 3 1, .c (.t (.v (.int .i64 p0_1)))), (.cell 3 2, .c (.row 500012)), (.cell 3 3, .c (.row 500013)), (.cell 3 4, .c (.t (.v (.int .u64 p0_4)))), (.row 500012, .r 51 2 (v12.map e51)), (.row 500013, .r 42 1 (v26.map e42))]) h (Goes.trans (Goes.nilRowC (b := 3) (j := 3) (n := 500016) 42 1 (by decide) rfl (by decide) rfl) (Goes.into [(1, 1), (2, 2), (3, 3), (500008, 500004), (500009, 500016)] ⟨rfl, rfl, .refl, .refl, .refl, .refl, .refl, .refl, .refl, .refl, .refl, .refl, .refl, .refl, .refl, .refl, .refl, .refl, .refl, .refl, .refl, .refl, .refl, trivial⟩)) (fun v25 _ h => ?_) (fun v26 h => ?_)
    · unfold law17_made_L2 at h
      refine aw_seq ?_
      refine aw_seq ?_
      refine aw_region (.cons (.plain rfl (c_move rfl rfl (by decide) .tmp)) ⟨rfl, trivial⟩ rfl <| .cons (.plain rfl (k_fieldP 24 3 rfl rfl (by decide) Try.underlying27 rfl i24 (by decide) .tmp)) ⟨rfl, trivial⟩ rfl <| .cons (.plain rfl (c_loadCell rfl rfl (by decide) Try.isAgg24 .tmp)) ⟨rfl, rfl, trivial⟩ rfl <| .cons (.plain rfl (k_len (i := Try.t42) (l := p0_3) (f := e42) (fun _ => rfl) (by decide) rfl rfl (by decide) Try.underlying24 (src_tree (f := e42) (fun _ => rfl) (by decide) .tmp))) ⟨rfl, trivial⟩ rfl <| .cons (.plain rfl (c_lss rfl rfl (by decide) .tmp .tmp)) ⟨rfl, rfl, trivial⟩ rfl <| .nil) ?_
      show AW _ _ _ _ _
      refine aw_cond .tmp ⟨rfl, trivial⟩ (fun hc6 => ?_) (fun hc6 => ?_)
      · have h := of_true hc6 h
        refine aw_skip ?_
        show AW _ _ _ _ _
        refine aw_seq ?_
        refine aw_block ?_
        obtain ⟨v27, hv27, h⟩ := bind_some h
        obtain ⟨v28, hv28, h⟩ := bind_some h
        obtain ⟨v29, hv29, h⟩ := bind_some h
        refine aw_region_draw mixed (.cons (.plain rfl (k_fieldP 24 3 rfl rfl (by decide) Try.underlying33 rfl i24 (by decide) .tmp)) ⟨rfl, trivial⟩ rfl <| .cons (.plain rfl (c_loadCell rfl rfl (by decide) Try.isAgg24 .tmp)) ⟨rfl, rfl, trivial⟩ rfl <| .cons (.plain rfl (c_buildSlice (sz := 1) (es := (([] : List (Int))).map e3) rfl rfl (by decide) Try.underlying42 i3 rfl rfl rfl rfl (by decide) .nil rfl (emb_len (f := e3) (n := 1) (fun _ => rfl) _) (by decide))) trivial rfl <| .cons (.plain rfl (k_fieldP 24 3 rfl rfl (by decide) Try.underlying27 rfl i24 (by decide) .tmp)) ⟨rfl, trivial⟩ rfl <| .cons (.plain rfl (c_loadCell rfl rfl (by decide) Try.isAgg24 .tmp)) ⟨rfl, rfl, trivial⟩ rfl <| .cons (.plain rfl (c_move rfl rfl (by decide) .tmp)) ⟨rfl, trivial⟩ rfl <| .cons (.plain rfl (k_index (f := e42) (i := Try.t42) hv27 rfl rfl rfl (by decide) Try.underlying24 i42 .tmp .tmp)) ⟨rfl, rfl, trivial⟩ rfl <| .cons (.plain rfl (c_loadTree rfl rfl (by decide) Try.isAgg42 .tmp rfl)) ⟨rfl, trivial⟩ rfl <| .cons (.plain rfl (.frozen (by simp [killed, Loc.names, Val.names]) (k_appendRow (f := e3) hv28 (by decide) (by decide) rfl rfl (by decide) Try.underlying42 i3 rfl rfl rfl rfl (by decide) .tmp (src_tree (f := e3) (fun _ => rfl) (by decide) .tmp)))) ⟨rfl, rfl, rfl, trivial⟩ rfl <| .cons (.plain rfl (.frozen (by simp) (c_buildSlice (sz := 1) (es := [v28].map e42) rfl rfl (by decide) Try.underlying24 i42 rfl rfl rfl rfl (by decide) (.c1 .tmp .nil) rfl (emb_len (f := e42) (n := 1) (fun _ => rfl) _) (by decide)))) ⟨rfl, trivial⟩ rfl <| .cons (.plain rfl (k_appendRow (f := e42) hv29 (by decide) (by decide) rfl rfl (by decide) Try.underlying24 i42 rfl rfl rfl rfl (by decide) .tmp (src_tree (f := e42) (fun _ => rfl) (by decide) .tmp))) ⟨rfl, rfl, rfl, trivial⟩ rfl <| .cons (.plain rfl (k_fieldP 24 3 rfl rfl (by decide) Try.underlying33 rfl i24 (by decide) .tmp)) ⟨rfl, trivial⟩ rfl <| .cons (.plain rfl (c_store rfl rfl i24 rfl .tmp .tmp)) ⟨rfl, rfl, rfl, trivial⟩ rfl <| .nil) rfl rfl ?_
        show AW _ _ _ _ _
        refine aw_region (.cons (.plain rfl (c_move rfl rfl (by decide) .tmp)) ⟨rfl, trivial⟩ rfl <| .cons (.plain rfl (c_add rfl rfl (by decide) .tmp (.const rfl))) ⟨rfl, trivial⟩ rfl <| .cons (.plain rfl (c_assign rfl rfl (by decide) .tmp)) ⟨rfl, trivial⟩ rfl <| .nil) ?_
        obtain rfl := Option.some.inj h
        exact ⟨_, rfl, (Goes.into [(1, 1), (2, 2), (3, 3), (500008, 500008), (500009, 57)] ⟨rfl, rfl, .refl, .refl, .refl, .refl, .refl, .refl, .refl, .refl, .refl, .refl, .refl, .refl, .refl, .refl, .refl, .refl, .refl, .refl, .refl, .refl, .refl, trivial⟩)⟩
      · have h := of_false hc6 h
        refine aw_exit ?_
        obtain rfl := Option.some.inj h
        exact ⟨rfl, _, rfl, (Goes.into [(2, 2), (3, 3), (500012, 500008), (500013, 500009)] ⟨rfl, rfl, .refl, .refl, .refl, .refl, .refl, .refl, .refl, .refl, .refl, .refl, .refl, .refl, .refl, .refl, trivial⟩)⟩
    · show AW _ _ _ _ _
      refine aw_seq ?_
      refine aw_region (.cons (.plain rfl (c_loadBox (cs := [.t (.sl (p0_0.map e57)), .t (.v (.int .i64 p0_1)), .row 500012, .row 500013, .t (.v (.int .u64 p0_4))]) rfl rfl (by decide) Try.isAgg33 i33 rfl .tmp)) ⟨rfl, rfl, rfl, rfl, rfl, rfl, trivial⟩ rfl <| .cons (.plain rfl (c_storeBox (cs0 := [.t (.v (.slice none 0 0)), .t (.v (.int .i64 0)), .t (.v (.slice none 0 0)), .t (.v (.slice none 0 0)), .t (.v (.int .u64 0))]) (cs := [.t (.sl (p0_0.map e57)), .t (.v (.int .i64 p0_1)), .row 500012, .row 500013, .t (.v (.int .u64 p0_4))]) rfl rfl i33 rfl rfl .tmp .tmp)) ⟨rfl, rfl, rfl, rfl, rfl, rfl, rfl, trivial⟩ rfl <| .nil) ?_
      show AW _ _ _ _ _
      refine aw_goes (σ' := [(.tmp 2, .m (.one (.ptr 2 0))), (.cell 2 0, .c (.t (.sl (p0_0.map e57)))), (.cell 2 1, .c (.t (.v (.int .i64 p0_1)))), (.cell 2 2, .c (.t (.sl (v12.map e51)))), (.cell 2 3, .c (.t (.sl (v26.map e42)))), (.cell 2 4, .c (.t (.v (.int .u64 p0_4))))]) (Goes.trans (Goes.freezeRow (n := 500012) rfl) (Goes.trans (Goes.freezeRow (n := 500013) rfl) (Goes.into [(2, 2)] ⟨rfl, rfl, .refl, .refl, .refl, .refl, .refl, .refl, trivial⟩))) ?_
      refine aw_ret ?_
      obtain rfl := Option.some.inj h
      exact ⟨.inr rfl, _, [], (.cellAgg (cs := [.t (.sl (p0_0.map e57)), .t (.v (.int .i64 p0_1)), .t (.sl (v12.map e51)), .t (.sl (v26.map e42)), .t (.v (.int .u64 p0_4))]) rfl Try.isAgg33 i33 rfl ⟨rfl, rfl, rfl, rfl, rfl, trivial⟩ .nil), rfl, rfl, rfl, ⟨rfl, rfl, trivial⟩⟩

def ref04_All (p0_0 : Int) (p0_1 : List (Int)) : Option (List (Int)) := bif decide (p0_0 = 0) then some p0_1 else (app_ [p0_0] p0_1).bind fun v1 => some v1
theorem ref04_All_calls (p0_0 : Int) (p0_1 : List (Int)) (r : List (Int)) (h : ref04_All p0_0 p0_1 = some r) : ACalls Try.prog 41 [.agg [.t (.v (.int .i64 p0_0)), .t (.sl (p0_1.map e3))]] [] (.one (.t (.sl (r.map e3)))) [] := by
  unfold ref04_All at h
  refine acalls_of_AW Try.func41 rfl Try.call41 (by decide) (show 1 ≤ 14 by decide) rfl rfl ?_
  refine aw_seq ?_
  refine aw_region (.cons (.plain rfl (k_boxN rfl rfl (by decide) .tmp rfl)) ⟨rfl, trivial⟩ rfl <| .cons (.plain rfl (c_assign rfl rfl (by decide) .nilT)) trivial rfl <| .nil) ?_
  show AW _ _ _ _ _
  refine aw_seq ?_
  refine aw_seq ?_
  refine aw_region (.cons (.plain rfl (k_fieldP 3 0 rfl rfl (by decide) Try.underlying58 rfl i3 (by decide) .tmp)) ⟨rfl, trivial⟩ rfl <| .cons (.plain rfl (c_loadCell rfl rfl (by decide) Try.isAgg3 .tmp)) ⟨rfl, rfl, trivial⟩ rfl <| .cons (.plain rfl (c_eql rfl rfl (by decide) .tmp (.const rfl))) ⟨rfl, trivial⟩ rfl <| .nil) ?_
  show AW _ _ _ _ _
  refine aw_cond .tmp ⟨rfl, trivial⟩ (fun hc1 => ?_) (fun hc1 => ?_)
  · have h := of_true hc1 h
    refine aw_seq ?_
    refine aw_region (.cons (.plain rfl (k_fieldP 42 1 rfl rfl (by decide) Try.underlying58 rfl i42 (by decide) .tmp)) ⟨rfl, trivial⟩ rfl <| .cons (.plain rfl (c_loadCell rfl rfl (by decide) Try.isAgg42 .tmp)) ⟨rfl, rfl, trivial⟩ rfl <| .cons (.plain rfl (c_assign rfl rfl (by decide) .tmp)) ⟨rfl, trivial⟩ rfl <| .nil) ?_
    show AW _ _ _ _ _
    refine aw_goes (σ' := [(.tmp 2, .m (.one (.t (.sl (p0_1.map e3)))))]) (Goes.into [] ⟨rfl, rfl, .refl, trivial⟩) ?_
    refine aw_ret ?_
    obtain rfl := Option.some.inj h
    exact ⟨.inr rfl, _, [], (.tmp rfl .nil), rfl, rfl, rfl, ⟨rfl, rfl, trivial⟩⟩
  · have h := of_false hc1 h
    refine aw_skip ?_
    show AW _ _ _ _ _
    refine aw_seq ?_
    obtain ⟨v1, hv1, h⟩ := bind_some h
    refine aw_region (.cons (.plain rfl (k_fieldP 3 0 rfl rfl (by decide) Try.underlying58 rfl i3 (by decide) .tmp)) ⟨rfl, trivial⟩ rfl <| .cons (.plain rfl (c_loadCell rfl rfl (by decide) Try.isAgg3 .tmp)) ⟨rfl, rfl, trivial⟩ rfl <| .cons (.plain rfl (c_buildSlice (sz := 1) (es := [p0_0].map e3) rfl rfl (by decide) Try.underlying42 i3 rfl rfl rfl rfl (by decide) (.c1 .tmp .nil) rfl (emb_len (f := e3) (n := 1) (fun _ => rfl) _) (by decide))) ⟨rfl, trivial⟩ rfl <| .cons (.plain rfl (k_fieldP 42 1 rfl rfl (by decide) Try.underlying58 rfl i42 (by decide) .tmp)) ⟨rfl, trivial⟩ rfl <| .cons (.plain rfl (c_loadCell rfl rfl (by decide) Try.isAgg42 .tmp)) ⟨rfl, rfl, trivial⟩ rfl <| .cons (.plain rfl (.frozen (by simp [killed, Loc.names, Val.names]) (k_appendRow (f := e3) hv1 (by decide) (by decide) rfl rfl (by decide) Try.underlying42 i3 rfl rfl rfl rfl (by decide) .tmp (src_tree (f := e3) (fun _ => rfl) (by decide) .tmp)))) ⟨rfl, rfl, rfl, trivial⟩ rfl <| .cons (.plain rfl (c_assign rfl rfl (by decide) .tmp)) ⟨rfl, trivial⟩ rfl <| .nil) ?_
    show AW _ _ _ _ _
    refine aw_goes (σ' := [(.tmp 2, .m (.one (.t (.sl (v1.map e3)))))]) (Goes.into [] ⟨rfl, rfl, .refl, trivial⟩) ?_
    refine aw_ret ?_
    obtain rfl := Option.some.inj h
    exact ⟨.inr rfl, _, [], (.tmp rfl .nil), rfl, rfl, rfl, ⟨rfl, rfl, trivial⟩⟩

def ref06_All_L1 (v9 : (Int × (List (Int)) × Int)) : Option ((Int × (List (Int)) × Int) ⊕ List (Int)) := bif decide (v9.2.2 < 64) then (bif decide (v9.1.tmod 2 = 1) then (app_ v9.2.1 [v9.2.2]).bind fun v12 => some v12 else some v9.2.1 : Option (List (Int))).bind fun v13 => some (.inl ((wu64 (v9.1.tdiv 2), v13, wi64 (v9.2.2 + 1)))) else some (.inr v9.2.1)
def ref06_All (p0 : Int) : Option (List (Int)) := (loopO ref06_All_L1 fuel ((p0, ([] : List (Int)), 0))).bind fun v10 => some v10
theorem ref06_All_calls (p0 : Int) (r : List (Int)) (h : ref06_All p0 = some r) : ACalls Try.prog 48 [.one (.t (.v (.int .u64 p0)))] [] (.one (.t (.sl (r.map e3)))) [] := by
  unfold ref06_All at h
  refine acalls_of_AW Try.func48 rfl Try.call48 (by decide) (show 1 ≤ 19 by decide) rfl rfl ?_
  refine aw_seq ?_
  refine aw_region (.cons (.plain rfl (c_assign rfl rfl (by decide) .nilT)) trivial rfl <| .nil) ?_
  show AW _ _ _ _ _
  refine aw_seq ?_
  refine aw_region (.cons (.plain rfl (c_assign rfl rfl (by decide) (.const rfl))) trivial rfl <| .nil) ?_
  show AW _ _ _ _ _
  refine aw_seq ?_
  refine aw_seq ?_
  refine aw_region (.cons (.plain rfl (c_assign rfl rfl (by decide) (.const rfl))) trivial rfl <| .nil) ?_
  show AW _ _ _ _ _
  refine aw_loop0 (fun v9 : (Int × (List (Int)) × Int) => [(.tmp 0, .m (.one (.t (.v (.int .u64 v9.1))))), (.tmp 3, .m (.one (.row 500004))), (.tmp 4, .m (.one (.t (.v (.int .i64 v9.2.2))))), (.row 500004, .r 3 1 (v9.2.1.map e3))]) (fun v10 : List (Int) => [(.tmp 3, .m (.one (.row 500007))), (.row 500007, .r 3 1 (v10.map e3))]) h (Goes.trans (Goes.nilRow (t := 3) (n := 500010) 3 1 (by decide) rfl (by decide) rfl) (Goes.into [(500004, 500010)] ⟨rfl, rfl, .refl, .refl, .refl, .refl, trivial⟩)) (fun v9 _ h => ?_) (fun v10 h => ?_)
  · unfold ref06_All_L1 at h
    refine aw_seq ?_
    refine aw_seq ?_
    refine aw_region (.cons (.plain rfl (c_move rfl rfl (by decide) .tmp)) ⟨rfl, trivial⟩ rfl <| .cons (.plain rfl (c_lss rfl rfl (by decide) .tmp (.const rfl))) ⟨rfl, trivial⟩ rfl <| .nil) ?_
    show AW _ _ _ _ _
    refine aw_cond .tmp ⟨rfl, trivial⟩ (fun hc7 => ?_) (fun hc7 => ?_)
    · have h := of_true hc7 h
      refine aw_skip ?_
      show AW _ _ _ _ _
      refine aw_seq ?_
      refine aw_block ?_
      refine aw_seq ?_
      refine aw_cut0 (fun v13 : List (Int) => [(.tmp 0, .m (.one (.t (.v (.int .u64 v9.1))))), (.tmp 3, .m (.one (.row 500008))), (.tmp 4, .m (.one (.t (.v (.int .i64 v9.2.2))))), (.row 500008, .r 3 1 (v13.map e3))]) h (fun _ h => ?_) (fun v13 h => ?_)
      · refine aw_seq ?_
        refine aw_region (.cons (.plain rfl (c_move rfl rfl (by decide) .tmp)) ⟨rfl, trivial⟩ rfl <| .cons (.plain rfl (c_rem (by decide) rfl rfl (by decide) .tmp (.const rfl))) ⟨rfl, trivial⟩ rfl <| .cons (.plain rfl (c_eql rfl rfl (by decide) .tmp (.const rfl))) ⟨rfl, trivial⟩ rfl <| .nil) ?_
        show AW _ _ _ _ _
        refine aw_cond .tmp ⟨rfl, trivial⟩ (fun hc9 => ?_) (fun hc9 => ?_)
        · have h := of_true hc9 h
          obtain ⟨v12, hv12, h⟩ := bind_some h
          refine aw_region (.cons (.plain rfl (c_move rfl rfl (by decide) .tmp)) ⟨rfl, trivial⟩ rfl <| .cons (.plain rfl (c_move rfl rfl (by decide) .tmp)) ⟨rfl, trivial⟩ rfl <| .cons (.plain rfl (.frozen (by simp) (c_buildSlice (sz := 1) (es := [v9.2.2].map e3) rfl rfl (by decide) Try.underlying42 i3 rfl rfl rfl rfl (by decide) (.c1 .tmp .nil) rfl (emb_len (f := e3) (n := 1) (fun _ => rfl) _) (by decide)))) ⟨rfl, trivial⟩ rfl <| .cons (.plain rfl (k_appendRow (f := e3) hv12 (by decide) (by decide) rfl rfl (by decide) Try.underlying42 i3 rfl rfl rfl rfl (by decide) .tmp (src_tree (f := e3) (fun _ => rfl) (by decide) .tmp))) ⟨rfl, rfl, rfl, trivial⟩ rfl <| .cons (.plain rfl (c_assign rfl rfl (by decide) .tmp)) ⟨rfl, trivial⟩ rfl <| .nil) ?_
          obtain rfl := Option.some.inj h
          show Goes _ _
          exact (Goes.into [(500008, 15)] ⟨rfl, rfl, .refl, .refl, .refl, .refl, trivial⟩)
        · have h := of_false hc9 h
          refine aw_skip ?_
          obtain rfl := Option.some.inj h
          show Goes _ _
          exact (Goes.into [(500008, 500004)] ⟨rfl, rfl, .refl, .refl, .refl, .refl, trivial⟩)
      · show AW _ _ _ _ _
        refine aw_region (.cons (.plain rfl (c_move rfl rfl (by decide) .tmp)) ⟨rfl, trivial⟩ rfl <| .cons (.plain rfl (c_quo (by decide) rfl rfl (by decide) .tmp (.const rfl))) ⟨rfl, trivial⟩ rfl <| .cons (.plain rfl (c_assign rfl rfl (by decide) .tmp)) ⟨rfl, trivial⟩ rfl <| .nil) ?_
        show AW _ _ _ _ _
        refine aw_region (.cons (.plain rfl (c_move rfl rfl (by decide) .tmp)) ⟨rfl, trivial⟩ rfl <| .cons (.plain rfl (c_add rfl rfl (by decide) .tmp (.const rfl))) ⟨rfl, trivial⟩ rfl <| .cons (.plain rfl (c_assign rfl rfl (by decide) .tmp)) ⟨rfl, trivial⟩ rfl <| .nil) ?_
        obtain rfl := Option.some.inj h
        exact ⟨_, rfl, (Goes.into [(500004, 500008)] ⟨rfl, rfl, .refl, .refl, .refl, .refl, trivial⟩)⟩
    · have h := of_false hc7 h
      refine aw_exit ?_
      obtain rfl := Option.some.inj h
      exact ⟨rfl, _, rfl, (Goes.into [(500007, 500004)] ⟨rfl, rfl, .refl, .refl, trivial⟩)⟩
  · show AW _ _ _ _ _
    refine aw_seq ?_
    refine aw_region (.cons (.plain rfl (c_move rfl rfl (by decide) .tmp)) ⟨rfl, trivial⟩ rfl <| .cons (.plain rfl (c_assign rfl rfl (by decide) .tmp)) ⟨rfl, trivial⟩ rfl <| .nil) ?_
    show AW _ _ _ _ _
    refine aw_goes (σ' := [(.tmp 2, .m (.one (.t (.sl (v10.map e3)))))]) (Goes.trans (Goes.freezeRow (n := 500007) rfl) (Goes.into [] ⟨rfl, rfl, .refl, trivial⟩)) ?_
    refine aw_ret ?_
    obtain rfl := Option.some.inj h
    exact ⟨.inr rfl, _, [], (.tmp rfl .nil), rfl, rfl, rfl, ⟨rfl, rfl, trivial⟩⟩

def ref01_In_L1 (p0 : List (Int)) (p1 : Int) (v5 : Int) : Option (Int ⊕ (Unit ⊕ Bool)) := bif decide (v5 < (p0.length : Int)) then (at_ p0 v5).bind fun v7 => bif decide (v7 = p1) then some (.inr (.inr true)) else some (.inl (wi64 (v5 + 1))) else some (.inr (.inl (())))
def ref01_In (p0 : List (Int)) (p1 : Int) : Option Bool := (loopO (ref01_In_L1 p0 p1) fuel 0).bind fun s => s.elim (fun v6 => some false) (fun j : Bool => some j)
theorem ref01_In_calls (p0 : List (Int)) (p1 : Int) (r : Bool) (h : ref01_In p0 p1 = some r) : ACalls Try.prog 51 [.one (.t (.sl (p0.map e3))), .one (.t (.v (.int .i64 p1)))] [] (.one (.t (.v (.bool r)))) [] := by
  unfold ref01_In at h
  refine acalls_of_AW Try.func51 rfl Try.call51 (by decide) (show 2 ≤ 18 by decide) rfl rfl ?_
  refine aw_seq ?_
  refine aw_region (.cons (.plain rfl (c_assign rfl rfl (by decide) (.const rfl))) trivial rfl <| .nil) ?_
  show AW _ _ _ _ _
  refine aw_seq ?_
  refine aw_seq ?_
  refine aw_region (.cons (.plain rfl (c_assign rfl rfl (by decide) (.const rfl))) trivial rfl <| .nil) ?_
  show AW _ _ _ _ _
  refine aw_loopJ (fun v5 : Int => [(.tmp 0, .m (.one (.t (.sl (p0.map e3))))), (.tmp 1, .m (.one (.t (.v (.int .i64 p1))))), (.tmp 5, .m (.one (.t (.v (.int .i64 v5)))))]) (fun v6 : Unit => []) h (Goes.into [] ⟨rfl, rfl, .refl, .refl, .refl, trivial⟩) (fun v5 _ h => ?_) (fun v6 h => ?_)
  · unfold ref01_In_L1 at h
    refine aw_seq ?_
    refine aw_seq ?_
    refine aw_region (.cons (.plain rfl (c_move rfl rfl (by decide) .tmp)) ⟨rfl, trivial⟩ rfl <| .cons (.plain rfl (c_move rfl rfl (by decide) .tmp)) ⟨rfl, trivial⟩ rfl <| .cons (.plain rfl (k_len (i := Try.t3) (l := p0) (f := e3) (fun _ => rfl) (by decide) rfl rfl (by decide) Try.underlying42 (src_tree (f := e3) (fun _ => rfl) (by decide) .tmp))) ⟨rfl, trivial⟩ rfl <| .cons (.plain rfl (c_lss rfl rfl (by decide) .tmp .tmp)) ⟨rfl, rfl, trivial⟩ rfl <| .nil) ?_
    show AW _ _ _ _ _
    refine aw_cond .tmp ⟨rfl, trivial⟩ (fun hc5 => ?_) (fun hc5 => ?_)
    · have h := of_true hc5 h
      refine aw_skip ?_
      show AW _ _ _ _ _
      refine aw_seq ?_
      refine aw_block ?_
      refine aw_seq ?_
      obtain ⟨v7, hv7, h⟩ := bind_some h
      refine aw_region (.cons (.plain rfl (c_move rfl rfl (by decide) .tmp)) ⟨rfl, trivial⟩ rfl <| .cons (.plain rfl (c_move rfl rfl (by decide) .tmp)) ⟨rfl, trivial⟩ rfl <| .cons (.plain rfl (k_index (f := e3) (i := Try.t3) hv7 rfl rfl rfl (by decide) Try.underlying42 i3 .tmp .tmp)) ⟨rfl, rfl, trivial⟩ rfl <| .cons (.plain rfl (c_loadTree rfl rfl (by decide) Try.isAgg3 .tmp rfl)) ⟨rfl, trivial⟩ rfl <| .cons (.plain rfl (c_move rfl rfl (by decide) .tmp)) ⟨rfl, trivial⟩ rfl <| .cons (.plain rfl (c_eql rfl rfl (by decide) .tmp .tmp)) ⟨rfl, rfl, trivial⟩ rfl <| .nil) ?_
      show AW _ _ _ _ _
      refine aw_cond .tmp ⟨rfl, trivial⟩ (fun hc6 => ?_) (fun hc6 => ?_)
      · have h := of_true hc6 h
        refine aw_seq ?_
        refine aw_region (.cons (.plain rfl (c_assign rfl rfl (by decide) (.const rfl))) trivial rfl <| .nil) ?_
        show AW _ _ _ _ _
        refine aw_goes (σ' := [(.tmp 4, .m (.one (.t (.v (.bool true)))))]) (Goes.into [] ⟨rfl, rfl, .refl, trivial⟩) ?_
        refine aw_ret ?_
        obtain rfl := Option.some.inj h
        refine ⟨_, rfl, fun h => ?_⟩
        obtain rfl := Option.some.inj h
        exact ⟨.inr rfl, _, [], (.tmp rfl .nil), rfl, rfl, rfl, ⟨rfl, rfl, trivial⟩⟩
      · have h := of_false hc6 h
        refine aw_skip ?_
        show AW _ _ _ _ _
        refine aw_region (.cons (.plain rfl (c_move rfl rfl (by decide) .tmp)) ⟨rfl, trivial⟩ rfl <| .cons (.plain rfl (c_add rfl rfl (by decide) .tmp (.const rfl))) ⟨rfl, trivial⟩ rfl <| .cons (.plain rfl (c_assign rfl rfl (by decide) .tmp)) ⟨rfl, trivial⟩ rfl <| .nil) ?_
        obtain rfl := Option.some.inj h
        exact ⟨_, rfl, (Goes.into [] ⟨rfl, rfl, .refl, .refl, .refl, trivial⟩)⟩
    · have h := of_false hc5 h
      refine aw_exit ?_
      obtain rfl := Option.some.inj h
      exact ⟨_, rfl, (Goes.into [] ⟨rfl, rfl, trivial⟩)⟩
  · show AW _ _ _ _ _
    refine aw_seq ?_
    refine aw_region (.cons (.plain rfl (c_assign rfl rfl (by decide) (.const rfl))) trivial rfl <| .nil) ?_
    show AW _ _ _ _ _
    refine aw_goes (σ' := [(.tmp 4, .m (.one (.t (.v (.bool false)))))]) (Goes.into [] ⟨rfl, rfl, .refl, trivial⟩) ?_
    refine aw_ret ?_
    obtain rfl := Option.some.inj h
    exact ⟨.inr rfl, _, [], (.tmp rfl .nil), rfl, rfl, rfl, ⟨rfl, rfl, trivial⟩⟩

def ref15_On (p0_0 : List (Int × Int)) (p0_1 : Int) (p0_2 : List (Int × (List (Int)))) (p0_3 : List ((List (Int)))) (p0_4 : Int) (p1 : Int) : Option Bool := (ref06_All p0_4).bind fun v1 => (ref01_In v1 p1).bind fun v2 => some v2
theorem ref15_On_calls (p0_0 : List (Int × Int)) (p0_1 : Int) (p0_2 : List (Int × (List (Int)))) (p0_3 : List ((List (Int)))) (p0_4 : Int) (p1 : Int) (r : Bool) (h : ref15_On p0_0 p0_1 p0_2 p0_3 p0_4 p1 = some r) : ACalls Try.prog 42 [.agg [.t (.sl (p0_0.map e57)), .t (.v (.int .i64 p0_1)), .t (.sl (p0_2.map e51)), .t (.sl (p0_3.map e42)), .t (.v (.int .u64 p0_4))], .one (.t (.v (.int .i64 p1)))] [] (.one (.t (.v (.bool r)))) [] := by
  unfold ref15_On at h
  refine acalls_of_AW Try.func42 rfl Try.call42 (by decide) (show 2 ≤ 10 by decide) rfl rfl ?_
  refine aw_seq ?_
  refine aw_region (.cons (.plain rfl (k_boxN rfl rfl (by decide) .tmp rfl)) ⟨rfl, trivial⟩ rfl <| .cons (.plain rfl (c_assign rfl rfl (by decide) (.const rfl))) trivial rfl <| .nil) ?_
  show AW _ _ _ _ _
  refine aw_seq ?_
  obtain ⟨v1, hv1, h⟩ := bind_some h
  obtain ⟨v2, hv2, h⟩ := bind_some h
  refine aw_region (.cons (.plain rfl (k_fieldP 25 4 rfl rfl (by decide) Try.underlying27 rfl i25 (by decide) .tmp)) ⟨rfl, trivial⟩ rfl <| .cons (.plain rfl (c_loadCell rfl rfl (by decide) Try.isAgg25 .tmp)) ⟨rfl, rfl, trivial⟩ rfl <| .cons (.plain rfl (c_call (ins := [.one (.t (.v (.int .u64 p0_4)))]) (caps := []) rfl rfl rfl (by decide) .clo (ref06_All_calls _ _ hv1) (.cons .tmp .nil) rfl rfl)) ⟨rfl, trivial⟩ rfl <| .cons (.plain rfl (c_move rfl rfl (by decide) .tmp)) ⟨rfl, trivial⟩ rfl <| .cons (.plain rfl (c_call (ins := [.one (.t (.sl (v1.map e3))), .one (.t (.v (.int .i64 p1)))]) (caps := []) rfl rfl rfl (by decide) .clo (ref01_In_calls _ _ _ hv2) (.cons .tmp (.cons .tmp .nil)) rfl rfl)) ⟨rfl, rfl, trivial⟩ rfl <| .cons (.plain rfl (c_assign rfl rfl (by decide) .tmp)) ⟨rfl, trivial⟩ rfl <| .nil) ?_
  show AW _ _ _ _ _
  refine aw_goes (σ' := [(.tmp 4, .m (.one (.t (.v (.bool v2)))))]) (Goes.into [] ⟨rfl, rfl, .refl, trivial⟩) ?_
  refine aw_ret ?_
  obtain rfl := Option.some.inj h
  exact ⟨.inr rfl, _, [], (.tmp rfl .nil), rfl, rfl, rfl, ⟨rfl, rfl, trivial⟩⟩

def ref01_Of_L1 (p0 : List (Int × Int)) (p1 : Int) (v13 : ((List (Int)) × Int)) : Option (((List (Int)) × Int) ⊕ List (Int)) := bif decide (v13.2 < (p0.length : Int)) then ((at_ p0 v13.2).bind fun v17 => bif decide (v17.2 = p1) then (app_ v13.1 [v13.2]).bind fun v18 => some v18 else some v13.1 : Option (List (Int))).bind fun v19 => some (.inl ((v19, wi64 (v13.2 + 1)))) else some (.inr v13.1)
def ref01_Of (p0 : List (Int × Int)) (p1 : Int) : Option (List (Int)) := (loopO (ref01_Of_L1 p0 p1) fuel ((([] : List (Int)), 0))).bind fun v14 => some v14
theorem ref01_Of_calls (p0 : List (Int × Int)) (p1 : Int) (r : List (Int)) (h : ref01_Of p0 p1 = some r) : ACalls Try.prog 47 [.one (.t (.sl (p0.map e57))), .one (.t (.v (.int .i64 p1)))] [] (.one (.t (.sl (r.map e3)))) [] := by
  unfold ref01_Of at h
  refine acalls_of_AW Try.func47 rfl Try.call47 (by decide) (show 2 ≤ 25 by decide) rfl rfl ?_
  refine aw_seq ?_
  refine aw_region (.cons (.plain rfl (c_assign rfl rfl (by decide) .nilT)) trivial rfl <| .nil) ?_
  show AW _ _ _ _ _
  refine aw_seq ?_
  refine aw_region (.cons (.plain rfl (c_assign rfl rfl (by decide) (.const rfl))) trivial rfl <| .nil) ?_
  show AW _ _ _ _ _
  refine aw_seq ?_
  refine aw_seq ?_
  refine aw_region (.cons (.plain rfl (c_assign rfl rfl (by decide) (.const rfl))) trivial rfl <| .nil) ?_
  show AW _ _ _ _ _
  refine aw_loop0 (fun v13 : ((List (Int)) × Int) => [(.tmp 0, .m (.one (.t (.sl (p0.map e57))))), (.tmp 1, .m (.one (.t (.v (.int .i64 p1))))), (.tmp 5, .m (.one (.row 500004))), (.tmp 6, .m (.one (.t (.v (.int .i64 v13.2))))), (.row 500004, .r 3 1 (v13.1.map e3))]) (fun v14 : List (Int) => [(.tmp 5, .m (.one (.row 500007))), (.row 500007, .r 3 1 (v14.map e3))]) h (Goes.trans (Goes.nilRow (t := 5) (n := 500010) 3 1 (by decide) rfl (by decide) rfl) (Goes.into [(500004, 500010)] ⟨rfl, rfl, .refl, .refl, .refl, .refl, .refl, trivial⟩)) (fun v13 _ h => ?_) (fun v14 h => ?_)
  · unfold ref01_Of_L1 at h
    refine aw_seq ?_
    refine aw_seq ?_
    refine aw_region (.cons (.plain rfl (c_move rfl rfl (by decide) .tmp)) ⟨rfl, trivial⟩ rfl <| .cons (.plain rfl (c_move rfl rfl (by decide) .tmp)) ⟨rfl, trivial⟩ rfl <| .cons (.plain rfl (k_len (i := Try.t57) (l := p0) (f := e57) (fun _ => rfl) (by decide) rfl rfl (by decide) Try.underlying22 (src_tree (f := e57) (fun _ => rfl) (by decide) .tmp))) ⟨rfl, trivial⟩ rfl <| .cons (.plain rfl (c_lss rfl rfl (by decide) .tmp .tmp)) ⟨rfl, rfl, trivial⟩ rfl <| .nil) ?_
    show AW _ _ _ _ _
    refine aw_cond .tmp ⟨rfl, trivial⟩ (fun hc7 => ?_) (fun hc7 => ?_)
    · have h := of_true hc7 h
      refine aw_skip ?_
      show AW _ _ _ _ _
      refine aw_seq ?_
      refine aw_cut0 (fun v19 : List (Int) => [(.tmp 0, .m (.one (.t (.sl (p0.map e57))))), (.tmp 1, .m (.one (.t (.v (.int .i64 p1))))), (.tmp 5, .m (.one (.row 500008))), (.tmp 6, .m (.one (.t (.v (.int .i64 v13.2))))), (.row 500008, .r 3 1 (v19.map e3))]) h (fun _ h => ?_) (fun v19 h => ?_)
      · refine aw_block ?_
        refine aw_seq ?_
        obtain ⟨v17, hv17, h⟩ := bind_some h
        refine aw_region (.cons (.plain rfl (c_move rfl rfl (by decide) .tmp)) ⟨rfl, trivial⟩ rfl <| .cons (.plain rfl (c_move rfl rfl (by decide) .tmp)) ⟨rfl, trivial⟩ rfl <| .cons (.plain rfl (k_index (f := e57) (i := Try.t57) hv17 rfl rfl rfl (by decide) Try.underlying22 i57 .tmp .tmp)) ⟨rfl, rfl, trivial⟩ rfl <| .cons (.plain rfl (k_fieldT 3 1 rfl rfl (by decide) Try.underlying57 rfl i3 (by decide) .tmp)) ⟨rfl, trivial⟩ rfl <| .cons (.plain rfl (c_loadTree rfl rfl (by decide) Try.isAgg3 .tmp rfl)) ⟨rfl, trivial⟩ rfl <| .cons (.plain rfl (c_move rfl rfl (by decide) .tmp)) ⟨rfl, trivial⟩ rfl <| .cons (.plain rfl (c_eql rfl rfl (by decide) .tmp .tmp)) ⟨rfl, rfl, trivial⟩ rfl <| .nil) ?_
        show AW _ _ _ _ _
        refine aw_cond .tmp ⟨rfl, trivial⟩ (fun hc9 => ?_) (fun hc9 => ?_)
        · have h := of_true hc9 h
          obtain ⟨v18, hv18, h⟩ := bind_some h
          refine aw_region (.cons (.plain rfl (c_move rfl rfl (by decide) .tmp)) ⟨rfl, trivial⟩ rfl <| .cons (.plain rfl (c_move rfl rfl (by decide) .tmp)) ⟨rfl, trivial⟩ rfl <| .cons (.plain rfl (.frozen (by simp) (c_buildSlice (sz := 1) (es := [v13.2].map e3) rfl rfl (by decide) Try.underlying42 i3 rfl rfl rfl rfl (by decide) (.c1 .tmp .nil) rfl (emb_len (f := e3) (n := 1) (fun _ => rfl) _) (by decide)))) ⟨rfl, trivial⟩ rfl <| .cons (.plain rfl (k_appendRow (f := e3) hv18 (by decide) (by decide) rfl rfl (by decide) Try.underlying42 i3 rfl rfl rfl rfl (by decide) .tmp (src_tree (f := e3) (fun _ => rfl) (by decide) .tmp))) ⟨rfl, rfl, rfl, trivial⟩ rfl <| .cons (.plain rfl (c_assign rfl rfl (by decide) .tmp)) ⟨rfl, trivial⟩ rfl <| .nil) ?_
          obtain rfl := Option.some.inj h
          show Goes _ _
          exact (Goes.into [(500008, 23)] ⟨rfl, rfl, .refl, .refl, .refl, .refl, .refl, trivial⟩)
        · have h := of_false hc9 h
          refine aw_skip ?_
          obtain rfl := Option.some.inj h
          show Goes _ _
          exact (Goes.into [(500008, 500004)] ⟨rfl, rfl, .refl, .refl, .refl, .refl, .refl, trivial⟩)
      · show AW _ _ _ _ _
        refine aw_region (.cons (.plain rfl (c_move rfl rfl (by decide) .tmp)) ⟨rfl, trivial⟩ rfl <| .cons (.plain rfl (c_add rfl rfl (by decide) .tmp (.const rfl))) ⟨rfl, trivial⟩ rfl <| .cons (.plain rfl (c_assign rfl rfl (by decide) .tmp)) ⟨rfl, trivial⟩ rfl <| .nil) ?_
        obtain rfl := Option.some.inj h
        exact ⟨_, rfl, (Goes.into [(500004, 500008)] ⟨rfl, rfl, .refl, .refl, .refl, .refl, .refl, trivial⟩)⟩
    · have h := of_false hc7 h
      refine aw_exit ?_
      obtain rfl := Option.some.inj h
      exact ⟨rfl, _, rfl, (Goes.into [(500007, 500004)] ⟨rfl, rfl, .refl, .refl, trivial⟩)⟩
  · show AW _ _ _ _ _
    refine aw_seq ?_
    refine aw_region (.cons (.plain rfl (c_move rfl rfl (by decide) .tmp)) ⟨rfl, trivial⟩ rfl <| .cons (.plain rfl (c_assign rfl rfl (by decide) .tmp)) ⟨rfl, trivial⟩ rfl <| .nil) ?_
    show AW _ _ _ _ _
    refine aw_goes (σ' := [(.tmp 4, .m (.one (.t (.sl (v14.map e3)))))]) (Goes.trans (Goes.freezeRow (n := 500007) rfl) (Goes.into [] ⟨rfl, rfl, .refl, trivial⟩)) ?_
    refine aw_ret ?_
    obtain rfl := Option.some.inj h
    exact ⟨.inr rfl, _, [], (.tmp rfl .nil), rfl, rfl, rfl, ⟨rfl, rfl, trivial⟩⟩

def ref01_Kids_L1 (p0 : List (Int × Int)) (p1 : Int) (v13 : ((List (Int)) × Int)) : Option (((List (Int)) × Int) ⊕ List (Int)) := bif decide (v13.2 < (p0.length : Int)) then ((at_ p0 v13.2).bind fun v17 => bif decide (v17.1 = p1) then (app_ v13.1 [v13.2]).bind fun v18 => some v18 else some v13.1 : Option (List (Int))).bind fun v19 => some (.inl ((v19, wi64 (v13.2 + 1)))) else some (.inr v13.1)
def ref01_Kids (p0 : List (Int × Int)) (p1 : Int) : Option (List (Int)) := (loopO (ref01_Kids_L1 p0 p1) fuel ((([] : List (Int)), 0))).bind fun v14 => some v14
theorem ref01_Kids_calls (p0 : List (Int × Int)) (p1 : Int) (r : List (Int)) (h : ref01_Kids p0 p1 = some r) : ACalls Try.prog 85 [.one (.t (.sl (p0.map e57))), .one (.t (.v (.int .i64 p1)))] [] (.one (.t (.sl (r.map e3)))) [] := by
  unfold ref01_Kids at h
  refine acalls_of_AW Try.func85 rfl Try.call85 (by decide) (show 2 ≤ 25 by decide) rfl rfl ?_
  refine aw_seq ?_
  refine aw_region (.cons (.plain rfl (c_assign rfl rfl (by decide) .nilT)) trivial rfl <| .nil) ?_
  show AW _ _ _ _ _
  refine aw_seq ?_
  refine aw_region (.cons (.plain rfl (c_assign rfl rfl (by decide) (.const rfl))) trivial rfl <| .nil) ?_
  show AW _ _ _ _ _
  refine aw_seq ?_
  refine aw_seq ?_
  refine aw_region (.cons (.plain rfl (c_assign rfl rfl (by decide) (.const rfl))) trivial rfl <| .nil) ?_
  show AW _ _ _ _ _
  refine aw_loop0 (fun v13 : ((List (Int)) × Int) => [(.tmp 0, .m (.one (.t (.sl (p0.map e57))))), (.tmp 1, .m (.one (.t (.v (.int .i64 p1))))), (.tmp 5, .m (.one (.row 500004))), (.tmp 6, .m (.one (.t (.v (.int .i64 v13.2))))), (.row 500004, .r 3 1 (v13.1.map e3))]) (fun v14 : List (Int) => [(.tmp 5, .m (.one (.row 500007))), (.row 500007, .r 3 1 (v14.map e3))]) h (Goes.trans (Goes.nilRow (t := 5) (n := 500010) 3 1 (by decide) rfl (by decide) rfl) (Goes.into [(500004, 500010)] ⟨rfl, rfl, .refl, .refl, .refl, .refl, .refl, trivial⟩)) (fun v13 _ h => ?_) (fun v14 h => ?_)
  · unfold ref01_Kids_L1 at h
    refine aw_seq ?_
    refine aw_seq ?_
    refine aw_region (.cons (.plain rfl (c_move rfl rfl (by decide) .tmp)) ⟨rfl, trivial⟩ rfl <| .cons (.plain rfl (c_move rfl rfl (by decide) .tmp)) ⟨rfl, trivial⟩ rfl <| .cons (.plain rfl (k_len (i := Try.t57) (l := p0) (f := e57) (fun _ => rfl) (by decide) rfl rfl (by decide) Try.underlying22 (src_tree (f := e57) (fun _ => rfl) (by decide) .tmp))) ⟨rfl, trivial⟩ rfl <| .cons (.plain rfl (c_lss rfl rfl (by decide) .tmp .tmp)) ⟨rfl, rfl, trivial⟩ rfl <| .nil) ?_
    show AW _ _ _ _ _
    refine aw_cond .tmp ⟨rfl, trivial⟩ (fun hc7 => ?_) (fun hc7 => ?_)
    · have h := of_true hc7 h
      refine aw_skip ?_
      show AW _ _ _ _ _
      refine aw_seq ?_
      refine aw_cut0 (fun v19 : List (Int) => [(.tmp 0, .m (.one (.t (.sl (p0.map e57))))), (.tmp 1, .m (.one (.t (.v (.int .i64 p1))))), (.tmp 5, .m (.one (.row 500008))), (.tmp 6, .m (.one (.t (.v (.int .i64 v13.2))))), (.row 500008, .r 3 1 (v19.map e3))]) h (fun _ h => ?_) (fun v19 h => ?_)
      · refine aw_block ?_
        refine aw_seq ?_
        obtain ⟨v17, hv17, h⟩ := bind_some h
        refine aw_region (.cons (.plain rfl (c_move rfl rfl (by decide) .tmp)) ⟨rfl, trivial⟩ rfl <| .cons (.plain rfl (c_move rfl rfl (by decide) .tmp)) ⟨rfl, trivial⟩ rfl <| .cons (.plain rfl (k_index (f := e57) (i := Try.t57) hv17 rfl rfl rfl (by decide) Try.underlying22 i57 .tmp .tmp)) ⟨rfl, rfl, trivial⟩ rfl <| .cons (.plain rfl (k_fieldT 3 0 rfl rfl (by decide) Try.underlying57 rfl i3 (by decide) .tmp)) ⟨rfl, trivial⟩ rfl <| .cons (.plain rfl (c_loadTree rfl rfl (by decide) Try.isAgg3 .tmp rfl)) ⟨rfl, trivial⟩ rfl <| .cons (.plain rfl (c_move rfl rfl (by decide) .tmp)) ⟨rfl, trivial⟩ rfl <| .cons (.plain rfl (c_eql rfl rfl (by decide) .tmp .tmp)) ⟨rfl, rfl, trivial⟩ rfl <| .nil) ?_
        show AW _ _ _ _ _
        refine aw_cond .tmp ⟨rfl, trivial⟩ (fun hc9 => ?_) (fun hc9 => ?_)
        · have h := of_true hc9 h
          obtain ⟨v18, hv18, h⟩ := bind_some h
          refine aw_region (.cons (.plain rfl (c_move rfl rfl (by decide) .tmp)) ⟨rfl, trivial⟩ rfl <| .cons (.plain rfl (c_move rfl rfl (by decide) .tmp)) ⟨rfl, trivial⟩ rfl <| .cons (.plain rfl (.frozen (by simp) (c_buildSlice (sz := 1) (es := [v13.2].map e3) rfl rfl (by decide) Try.underlying42 i3 rfl rfl rfl rfl (by decide) (.c1 .tmp .nil) rfl (emb_len (f := e3) (n := 1) (fun _ => rfl) _) (by decide)))) ⟨rfl, trivial⟩ rfl <| .cons (.plain rfl (k_appendRow (f := e3) hv18 (by decide) (by decide) rfl rfl (by decide) Try.underlying42 i3 rfl rfl rfl rfl (by decide) .tmp (src_tree (f := e3) (fun _ => rfl) (by decide) .tmp))) ⟨rfl, rfl, rfl, trivial⟩ rfl <| .cons (.plain rfl (c_assign rfl rfl (by decide) .tmp)) ⟨rfl, trivial⟩ rfl <| .nil) ?_
          obtain rfl := Option.some.inj h
          show Goes _ _
          exact (Goes.into [(500008, 23)] ⟨rfl, rfl, .refl, .refl, .refl, .refl, .refl, trivial⟩)
        · have h := of_false hc9 h
          refine aw_skip ?_
          obtain rfl := Option.some.inj h
          show Goes _ _
          exact (Goes.into [(500008, 500004)] ⟨rfl, rfl, .refl, .refl, .refl, .refl, .refl, trivial⟩)
      · show AW _ _ _ _ _
        refine aw_region (.cons (.plain rfl (c_move rfl rfl (by decide) .tmp)) ⟨rfl, trivial⟩ rfl <| .cons (.plain rfl (c_add rfl rfl (by decide) .tmp (.const rfl))) ⟨rfl, trivial⟩ rfl <| .cons (.plain rfl (c_assign rfl rfl (by decide) .tmp)) ⟨rfl, trivial⟩ rfl <| .nil) ?_
        obtain rfl := Option.some.inj h
        exact ⟨_, rfl, (Goes.into [(500004, 500008)] ⟨rfl, rfl, .refl, .refl, .refl, .refl, .refl, trivial⟩)⟩
    · have h := of_false hc7 h
      refine aw_exit ?_
      obtain rfl := Option.some.inj h
      exact ⟨rfl, _, rfl, (Goes.into [(500007, 500004)] ⟨rfl, rfl, .refl, .refl, trivial⟩)⟩
  · show AW _ _ _ _ _
    refine aw_seq ?_
    refine aw_region (.cons (.plain rfl (c_move rfl rfl (by decide) .tmp)) ⟨rfl, trivial⟩ rfl <| .cons (.plain rfl (c_assign rfl rfl (by decide) .tmp)) ⟨rfl, trivial⟩ rfl <| .nil) ?_
    show AW _ _ _ _ _
    refine aw_goes (σ' := [(.tmp 4, .m (.one (.t (.sl (v14.map e3)))))]) (Goes.trans (Goes.freezeRow (n := 500007) rfl) (Goes.into [] ⟨rfl, rfl, .refl, trivial⟩)) ?_
    refine aw_ret ?_
    obtain rfl := Option.some.inj h
    exact ⟨.inr rfl, _, [], (.tmp rfl .nil), rfl, rfl, rfl, ⟨rfl, rfl, trivial⟩⟩

def ref01_Check_L1 (p0 : List (Int × Int)) (v26 : Int) : Option (Int ⊕ (Unit ⊕ Int)) := bif decide (v26 < (p0.length : Int)) then (at_ p0 v26).bind fun v28 => (bif decide (v28.1 < 0) then some true else bif decide (v26 ≤ v28.1) then some true else (at_ p0 v26).bind fun v32 => (at_ p0 v28.1).bind fun v33 => bif !decide (v32.2 = wi64 (v33.2 + 1)) then some true else (at_ p0 v26).bind fun v34 => some (decide (3 < v34.2)) : Option Bool).bind fun v35 => bif v35 then some (.inr (.inr 2)) else some (.inl (wi64 (v26 + 1))) else some (.inr (.inl (())))
def ref01_Check_L2 (p0 : List (Int × Int)) (v46 : Int) : Option (Int ⊕ (Unit ⊕ Int)) := bif decide (v46 < (p0.length : Int)) then (ref01_Kids p0 v46).bind fun v48 => ((at_ p0 v46).bind fun v50 => bif decide (v50.2 < 3) then bif decide ((v48.length : Int) < 1) then some true else some (decide (8 < (v48.length : Int))) else some false : Option Bool).bind fun v51 => bif v51 then some (.inr (.inr 2)) else some (.inl (wi64 (v46 + 1))) else some (.inr (.inl (())))
def ref01_Check (p0 : List (Int × Int)) : Option Int := (bif decide ((p0.length : Int) = 0) then some true else bif decide (64 < (p0.length : Int)) then some true else (ref01_Of p0 3).bind fun v4 => bif decide (32 < (v4.length : Int)) then some true else (at_ p0 0).bind fun v5 => bif !decide (v5.1 = (-1)) then some true else (at_ p0 0).bind fun v6 => some (!decide (v6.2 = 0)) : Option Bool).bind fun v7 => bif v7 then some 2 else (loopO (ref01_Check_L1 p0) fuel 1).bind fun s => s.elim (fun v27 => (loopO (ref01_Check_L2 p0) fuel 0).bind fun s => s.elim (fun v47 => some 0) (fun j : Int => some j)) (fun j : Int => some j)
theorem ref01_Check_calls (p0 : List (Int × Int)) (r : Int) (h : ref01_Check p0 = some r) : ACalls Try.prog 46 [.one (.t (.sl (p0.map e57)))] [] (.one (.t (.v (.int .i64 r)))) [] := by
  unfold ref01_Check at h
  refine acalls_of_AW Try.func46 rfl Try.call46 (by decide) (show 1 ≤ 99 by decide) rfl rfl ?_
  refine aw_seq ?_
  refine aw_region (.cons (.plain rfl (c_assign rfl rfl (by decide) (.const rfl))) trivial rfl <| .nil) ?_
  show AW _ _ _ _ _
  refine aw_seq ?_
  refine aw_seq ?_
  refine aw_cut0 (fun v7 : Bool => [(.tmp 0, .m (.one (.t (.sl (p0.map e57))))), (.tmp 34, .m (.one (.t (.v (.bool v7)))))]) h (fun _ h => ?_) (fun v7 h => ?_)
  · cases hc5 : decide ((p0.length : Int) = 0) with
    | true =>
      have h := of_true hc5 h
      refine aw_region (.cons (.plain rfl (c_move rfl rfl (by decide) .tmp)) ⟨rfl, trivial⟩ rfl <| .cons (.plain rfl (k_len (i := Try.t57) (l := p0) (f := e57) (fun _ => rfl) (by decide) rfl rfl (by decide) Try.underlying22 (src_tree (f := e57) (fun _ => rfl) (by decide) .tmp))) ⟨rfl, trivial⟩ rfl <| .cons (.plain rfl (c_eql rfl rfl (by decide) .tmp (.const rfl))) ⟨rfl, trivial⟩ rfl <| .cons (.plain rfl (c_move rfl rfl (by decide) .tmp)) ⟨rfl, trivial⟩ rfl <| .cons (.off (b' := true) rfl rfl rfl rfl (by decide)) ⟨(congrArg mB hc5), trivial⟩ rfl <| .cons (.off (b' := true) rfl rfl rfl rfl (by decide)) ⟨(congrArg mB hc5), trivial⟩ rfl <| .cons (.off (b' := true) rfl rfl rfl rfl (by decide)) ⟨(congrArg mB hc5), trivial⟩ rfl <| .cons (.plain rfl (c_pick (b := true) rfl rfl (by decide) .tmp rfl (.const rfl))) ⟨(congrArg mB hc5), trivial⟩ rfl <| .cons (.plain rfl (c_move rfl rfl (by decide) .tmp)) ⟨rfl, trivial⟩ rfl <| .cons (.off (b' := true) rfl rfl rfl rfl (by decide)) ⟨rfl, trivial⟩ rfl <| .cons (.off (b' := true) rfl rfl rfl rfl (by decide)) ⟨rfl, trivial⟩ rfl <| .cons (.off (b' := true) rfl rfl rfl rfl (by decide)) ⟨rfl, trivial⟩ rfl <| .cons (.off (b' := true) rfl rfl rfl rfl (by decide)) ⟨rfl, trivial⟩ rfl <| .cons (.plain rfl (c_pick (b := true) rfl rfl (by decide) .tmp rfl (.const rfl))) ⟨rfl, trivial⟩ rfl <| .cons (.plain rfl (c_move rfl rfl (by decide) .tmp)) ⟨rfl, trivial⟩ rfl <| .cons (.off (b' := true) rfl rfl rfl rfl (by decide)) ⟨rfl, trivial⟩ rfl <| .cons (.off (b' := true) rfl rfl rfl rfl (by decide)) ⟨rfl, trivial⟩ rfl <| .cons (.off (b' := true) rfl rfl rfl rfl (by decide)) ⟨rfl, trivial⟩ rfl <| .cons (.off (b' := true) rfl rfl rfl rfl (by decide)) ⟨rfl, trivial⟩ rfl <| .cons (.off (b' := true) rfl rfl rfl rfl (by decide)) ⟨rfl, trivial⟩ rfl <| .cons (.plain rfl (c_pick (b := true) rfl rfl (by decide) .tmp rfl (.const rfl))) ⟨rfl, trivial⟩ rfl <| .cons (.plain rfl (c_move rfl rfl (by decide) .tmp)) ⟨rfl, trivial⟩ rfl <| .cons (.off (b' := true) rfl rfl rfl rfl (by decide)) ⟨rfl, trivial⟩ rfl <| .cons (.off (b' := true) rfl rfl rfl rfl (by decide)) ⟨rfl, trivial⟩ rfl <| .cons (.off (b' := true) rfl rfl rfl rfl (by decide)) ⟨rfl, trivial⟩ rfl <| .cons (.off (b' := true) rfl rfl rfl rfl (by decide)) ⟨rfl, trivial⟩ rfl <| .cons (.off (b' := true) rfl rfl rfl rfl (by decide)) ⟨rfl, trivial⟩ rfl <| .cons (.plain rfl (c_pick (b := true) rfl rfl (by decide) .tmp rfl (.const rfl))) ⟨rfl, trivial⟩ rfl <| .nil) ?_
      obtain rfl := Option.some.inj h
      show Goes _ _
      exact (Goes.into [] ⟨rfl, rfl, .refl, .refl, trivial⟩)
    | false =>
      have h := of_false hc5 h
      cases hc6 : decide (64 < (p0.length : Int)) with
      | true =>
        have h := of_true hc6 h
        refine aw_region (.cons (.plain rfl (c_move rfl rfl (by decide) .tmp)) ⟨rfl, trivial⟩ rfl <| .cons (.plain rfl (k_len (i := Try.t57) (l := p0) (f := e57) (fun _ => rfl) (by decide) rfl rfl (by decide) Try.underlying22 (src_tree (f := e57) (fun _ => rfl) (by decide) .tmp))) ⟨rfl, trivial⟩ rfl <| .cons (.plain rfl (c_eql rfl rfl (by decide) .tmp (.const rfl))) ⟨rfl, trivial⟩ rfl <| .cons (.plain rfl (c_move rfl rfl (by decide) .tmp)) ⟨rfl, trivial⟩ rfl <| .cons (.on (t := 10) rfl rfl (c_move rfl rfl (by decide) .tmp)) ⟨(congrArg mB hc5), rfl, trivial⟩ rfl <| .cons (.on (t := 10) rfl rfl (k_len (i := Try.t57) (l := p0) (f := e57) (fun _ => rfl) (by decide) rfl rfl (by decide) Try.underlying22 (src_tree (f := e57) (fun _ => rfl) (by decide) .tmp))) ⟨(congrArg mB hc5), rfl, trivial⟩ rfl <| .cons (.on (t := 10) rfl rfl (c_gtr rfl rfl (by decide) .tmp (.const rfl))) ⟨(congrArg mB hc5), rfl, trivial⟩ rfl <| .cons (.plain rfl (c_pick (b := false) rfl rfl (by decide) .tmp rfl .tmp)) ⟨(congrArg mB hc5), rfl, trivial⟩ rfl <| .cons (.plain rfl (c_move rfl rfl (by decide) .tmp)) ⟨rfl, trivial⟩ rfl <| .cons (.off (b' := true) rfl rfl rfl rfl (by decide)) ⟨(congrArg mB hc6), trivial⟩ rfl <| .cons (.off (b' := true) rfl rfl rfl rfl (by decide)) ⟨(congrArg mB hc6), trivial⟩ rfl <| .cons (.off (b' := true) rfl rfl rfl rfl (by decide)) ⟨(congrArg mB hc6), trivial⟩ rfl <| .cons (.off (b' := true) rfl rfl rfl rfl (by decide)) ⟨(congrArg mB hc6), trivial⟩ rfl <| .cons (.plain rfl (c_pick (b := true) rfl rfl (by decide) .tmp rfl (.const rfl))) ⟨(congrArg mB hc6), trivial⟩ rfl <| .cons (.plain rfl (c_move rfl rfl (by decide) .tmp)) ⟨rfl, trivial⟩ rfl <| .cons (.off (b' := true) rfl rfl rfl rfl (by decide)) ⟨rfl, trivial⟩ rfl <| .cons (.off (b' := true) rfl rfl rfl rfl (by decide)) ⟨rfl, trivial⟩ rfl <| .cons (.off (b' := true) rfl rfl rfl rfl (by decide)) ⟨rfl, trivial⟩ rfl <| .cons (.off (b' := true) rfl rfl rfl rfl (by decide)) ⟨rfl, trivial⟩ rfl <| .cons (.off (b' := true) rfl rfl rfl rfl (by decide)) ⟨rfl, trivial⟩ rfl <| .cons (.plain rfl (c_pick (b := true) rfl rfl (by decide) .tmp rfl (.const rfl))) ⟨rfl, trivial⟩ rfl <| .cons (.plain rfl (c_move rfl rfl (by decide) .tmp)) ⟨rfl, trivial⟩ rfl <| .cons (.off (b' := true) rfl rfl rfl rfl (by decide)) ⟨rfl, trivial⟩ rfl <| .cons (.off (b' := true) rfl rfl rfl rfl (by decide)) ⟨rfl, trivial⟩ rfl <| .cons (.off (b' := true) rfl rfl rfl rfl (by decide)) ⟨rfl, trivial⟩ rfl <| .cons (.off (b' := true) rfl rfl rfl rfl (by decide)) ⟨rfl, trivial⟩ rfl <| .cons (.off (b' := true) rfl rfl rfl rfl (by decide)) ⟨rfl, trivial⟩ rfl <| .cons (.plain rfl (c_pick (b := true) rfl rfl (by decide) .tmp rfl (.const rfl))) ⟨rfl, trivial⟩ rfl <| .nil) ?_
        obtain rfl := Option.some.inj h
        show Goes _ _
        exact (Goes.into [] ⟨rfl, rfl, .refl, .refl, trivial⟩)
      | false =>
        have h := of_false hc6 h
        obtain ⟨v4, hv4, h⟩ := bind_some h
        cases hc7 : decide (32 < (v4.length : Int)) with
        | true =>
          have h := of_true hc7 h
          refine aw_region (.cons (.plain rfl (c_move rfl rfl (by decide) .tmp)) ⟨rfl, trivial⟩ rfl <| .cons (.plain rfl (k_len (i := Try.t57) (l := p0) (f := e57) (fun _ => rfl) (by decide) rfl rfl (by decide) Try.underlying22 (src_tree (f := e57) (fun _ => rfl) (by decide) .tmp))) ⟨rfl, trivial⟩ rfl <| .cons (.plain rfl (c_eql rfl rfl (by decide) .tmp (.const rfl))) ⟨rfl, trivial⟩ rfl <| .cons (.plain rfl (c_move rfl rfl (by decide) .tmp)) ⟨rfl, trivial⟩ rfl <| .cons (.on (t := 10) rfl rfl (c_move rfl rfl (by decide) .tmp)) ⟨(congrArg mB hc5), rfl, trivial⟩ rfl <| .cons (.on (t := 10) rfl rfl (k_len (i := Try.t57) (l := p0) (f := e57) (fun _ => rfl) (by decide) rfl rfl (by decide) Try.underlying22 (src_tree (f := e57) (fun _ => rfl) (by decide) .tmp))) ⟨(congrArg mB hc5), rfl, trivial⟩ rfl <| .cons (.on (t := 10) rfl rfl (c_gtr rfl rfl (by decide) .tmp (.const rfl))) ⟨(congrArg mB hc5), rfl, trivial⟩ rfl <| .cons (.plain rfl (c_pick (b := false) rfl rfl (by decide) .tmp rfl .tmp)) ⟨(congrArg mB hc5), rfl, trivial⟩ rfl <| .cons (.plain rfl (c_move rfl rfl (by decide) .tmp)) ⟨rfl, trivial⟩ rfl <| .cons (.on (t := 15) rfl rfl (c_move rfl rfl (by decide) .tmp)) ⟨(congrArg mB hc6), rfl, trivial⟩ rfl <| .cons (.on (t := 15) rfl rfl (c_call (ins := [.one (.t (.sl (p0.map e57))), .one (.t (.v (.int .i64 3)))]) (caps := []) rfl rfl rfl (by decide) .clo (ref01_Of_calls _ _ _ hv4) (.cons .tmp (.cons (.const rfl) .nil)) rfl rfl)) ⟨(congrArg mB hc6), rfl, trivial⟩ rfl <| .cons (.on (t := 15) rfl rfl (k_len (i := Try.t3) (l := v4) (f := e3) (fun _ => rfl) (by decide) rfl rfl (by decide) Try.underlying42 (src_tree (f := e3) (fun _ => rfl) (by decide) .tmp))) ⟨(congrArg mB hc6), rfl, trivial⟩ rfl <| .cons (.on (t := 15) rfl rfl (c_gtr rfl rfl (by decide) .tmp (.const rfl))) ⟨(congrArg mB hc6), rfl, trivial⟩ rfl <| .cons (.plain rfl (c_pick (b := false) rfl rfl (by decide) .tmp rfl .tmp)) ⟨(congrArg mB hc6), rfl, trivial⟩ rfl <| .cons (.plain rfl (c_move rfl rfl (by decide) .tmp)) ⟨rfl, trivial⟩ rfl <| .cons (.off (b' := true) rfl rfl rfl rfl (by decide)) ⟨(congrArg mB hc7), trivial⟩ rfl <| .cons (.off (b' := true) rfl rfl rfl rfl (by decide)) ⟨(congrArg mB hc7), trivial⟩ rfl <| .cons (.off (b' := true) rfl rfl rfl rfl (by decide)) ⟨(congrArg mB hc7), trivial⟩ rfl <| .cons (.off (b' := true) rfl rfl rfl rfl (by decide)) ⟨(congrArg mB hc7), trivial⟩ rfl <| .cons (.off (b' := true) rfl rfl rfl rfl (by decide)) ⟨(congrArg mB hc7), trivial⟩ rfl <| .cons (.plain rfl (c_pick (b := true) rfl rfl (by decide) .tmp rfl (.const rfl))) ⟨(congrArg mB hc7), trivial⟩ rfl <| .cons (.plain rfl (c_move rfl rfl (by decide) .tmp)) ⟨rfl, trivial⟩ rfl <| .cons (.off (b' := true) rfl rfl rfl rfl (by decide)) ⟨rfl, trivial⟩ rfl <| .cons (.off (b' := true) rfl rfl rfl rfl (by decide)) ⟨rfl, trivial⟩ rfl <| .cons (.off (b' := true) rfl rfl rfl rfl (by decide)) ⟨rfl, trivial⟩ rfl <| .cons (.off (b' := true) rfl rfl rfl rfl (by decide)) ⟨rfl, trivial⟩ rfl <| .cons (.off (b' := true) rfl rfl rfl rfl (by decide)) ⟨rfl, trivial⟩ rfl <| .cons (.plain rfl (c_pick (b := true) rfl rfl (by decide) .tmp rfl (.const rfl))) ⟨rfl, trivial⟩ rfl <| .nil) ?_
          obtain rfl := Option.some.inj h
          show Goes _ _
          exact (Goes.into [] ⟨rfl, rfl, .refl, .refl, trivial⟩)
        | false =>
          have h := of_false hc7 h
          obtain ⟨v5, hv5, h⟩ := bind_some h
          cases hc8 : !decide (v5.1 = (-1)) with
          | true =>
            have h := of_true hc8 h
            refine aw_region (.cons (.plain rfl (c_move rfl rfl (by decide) .tmp)) ⟨rfl, trivial⟩ rfl <| .cons (.plain rfl (k_len (i := Try.t57) (l := p0) (f := e57) (fun _ => rfl) (by decide) rfl rfl (by decide) Try.underlying22 (src_tree (f := e57) (fun _ => rfl) (by decide) .tmp))) ⟨rfl, trivial⟩ rfl <| .cons (.plain rfl (c_eql rfl rfl (by decide) .tmp (.const rfl))) ⟨rfl, trivial⟩ rfl <| .cons (.plain rfl (c_move rfl rfl (by decide) .tmp)) ⟨rfl, trivial⟩ rfl <| .cons (.on (t := 10) rfl rfl (c_move rfl rfl (by decide) .tmp)) ⟨(congrArg mB hc5), rfl, trivial⟩ rfl <| .cons (.on (t := 10) rfl rfl (k_len (i := Try.t57) (l := p0) (f := e57) (fun _ => rfl) (by decide) rfl rfl (by decide) Try.underlying22 (src_tree (f := e57) (fun _ => rfl) (by decide) .tmp))) ⟨(congrArg mB hc5), rfl, trivial⟩ rfl <| .cons (.on (t := 10) rfl rfl (c_gtr rfl rfl (by decide) .tmp (.const rfl))) ⟨(congrArg mB hc5), rfl, trivial⟩ rfl <| .cons (.plain rfl (c_pick (b := false) rfl rfl (by decide) .tmp rfl .tmp)) ⟨(congrArg mB hc5), rfl, trivial⟩ rfl <| .cons (.plain rfl (c_move rfl rfl (by decide) .tmp)) ⟨rfl, trivial⟩ rfl <| .cons (.on (t := 15) rfl rfl (c_move rfl rfl (by decide) .tmp)) ⟨(congrArg mB hc6), rfl, trivial⟩ rfl <| .cons (.on (t := 15) rfl rfl (c_call (ins := [.one (.t (.sl (p0.map e57))), .one (.t (.v (.int .i64 3)))]) (caps := []) rfl rfl rfl (by decide) .clo (ref01_Of_calls _ _ _ hv4) (.cons .tmp (.cons (.const rfl) .nil)) rfl rfl)) ⟨(congrArg mB hc6), rfl, trivial⟩ rfl <| .cons (.on (t := 15) rfl rfl (k_len (i := Try.t3) (l := v4) (f := e3) (fun _ => rfl) (by decide) rfl rfl (by decide) Try.underlying42 (src_tree (f := e3) (fun _ => rfl) (by decide) .tmp))) ⟨(congrArg mB hc6), rfl, trivial⟩ rfl <| .cons (.on (t := 15) rfl rfl (c_gtr rfl rfl (by decide) .tmp (.const rfl))) ⟨(congrArg mB hc6), rfl, trivial⟩ rfl <| .cons (.plain rfl (c_pick (b := false) rfl rfl (by decide) .tmp rfl .tmp)) ⟨(congrArg mB hc6), rfl, trivial⟩ rfl <| .cons (.plain rfl (c_move rfl rfl (by decide) .tmp)) ⟨rfl, trivial⟩ rfl <| .cons (.on (t := 21) rfl rfl (c_move rfl rfl (by decide) .tmp)) ⟨(congrArg mB hc7), rfl, trivial⟩ rfl <| .cons (.on (t := 21) rfl rfl (k_index (f := e57) (i := Try.t57) hv5 rfl rfl rfl (by decide) Try.underlying22 i57 .tmp (.const rfl))) ⟨(congrArg mB hc7), rfl, trivial⟩ rfl <| .cons (.on (t := 21) rfl rfl (k_fieldT 3 0 rfl rfl (by decide) Try.underlying57 rfl i3 (by decide) .tmp)) ⟨(congrArg mB hc7), rfl, trivial⟩ rfl <| .cons (.on (t := 21) rfl rfl (c_loadTree rfl rfl (by decide) Try.isAgg3 .tmp rfl)) ⟨(congrArg mB hc7), rfl, trivial⟩ rfl <| .cons (.on (t := 21) rfl rfl (c_neq rfl rfl (by decide) .tmp (.const rfl))) ⟨(congrArg mB hc7), rfl, trivial⟩ rfl <| .cons (.plain rfl (c_pick (b := false) rfl rfl (by decide) .tmp rfl .tmp)) ⟨(congrArg mB hc7), rfl, trivial⟩ rfl <| .cons (.plain rfl (c_move rfl rfl (by decide) .tmp)) ⟨rfl, trivial⟩ rfl <| .cons (.off (b' := true) rfl rfl rfl rfl (by decide)) ⟨(congrArg mB hc8), trivial⟩ rfl <| .cons (.off (b' := true) rfl rfl rfl rfl (by decide)) ⟨(congrArg mB hc8), trivial⟩ rfl <| .cons (.off (b' := true) rfl rfl rfl rfl (by decide)) ⟨(congrArg mB hc8), trivial⟩ rfl <| .cons (.off (b' := true) rfl rfl rfl rfl (by decide)) ⟨(congrArg mB hc8), trivial⟩ rfl <| .cons (.off (b' := true) rfl rfl rfl rfl (by decide)) ⟨(congrArg mB hc8), trivial⟩ rfl <| .cons (.plain rfl (c_pick (b := true) rfl rfl (by decide) .tmp rfl (.const rfl))) ⟨(congrArg mB hc8), trivial⟩ rfl <| .nil) ?_
            obtain rfl := Option.some.inj h
            show Goes _ _
            exact (Goes.into [] ⟨rfl, rfl, .refl, .refl, trivial⟩)
          | false =>
            have h := of_false hc8 h
            obtain ⟨v6, hv6, h⟩ := bind_some h
            refine aw_region (.cons (.plain rfl (c_move rfl rfl (by decide) .tmp)) ⟨rfl, trivial⟩ rfl <| .cons (.plain rfl (k_len (i := Try.t57) (l := p0) (f := e57) (fun _ => rfl) (by decide) rfl rfl (by decide) Try.underlying22 (src_tree (f := e57) (fun _ => rfl) (by decide) .tmp))) ⟨rfl, trivial⟩ rfl <| .cons (.plain rfl (c_eql rfl rfl (by decide) .tmp (.const rfl))) ⟨rfl, trivial⟩ rfl <| .cons (.plain rfl (c_move rfl rfl (by decide) .tmp)) ⟨rfl, trivial⟩ rfl <| .cons (.on (t := 10) rfl rfl (c_move rfl rfl (by decide) .tmp)) ⟨(congrArg mB hc5), rfl, trivial⟩ rfl <| .cons (.on (t := 10) rfl rfl (k_len (i := Try.t57) (l := p0) (f := e57) (fun _ => rfl) (by decide) rfl rfl (by decide) Try.underlying22 (src_tree (f := e57) (fun _ => rfl) (by decide) .tmp))) ⟨(congrArg mB hc5), rfl, trivial⟩ rfl <| .cons (.on (t := 10) rfl rfl (c_gtr rfl rfl (by decide) .tmp (.const rfl))) ⟨(congrArg mB hc5), rfl, trivial⟩ rfl <| .cons (.plain rfl (c_pick (b := false) rfl rfl (by decide) .tmp rfl .tmp)) ⟨(congrArg mB hc5), rfl, trivial⟩ rfl <| .cons (.plain rfl (c_move rfl rfl (by decide) .tmp)) ⟨rfl, trivial⟩ rfl <| .cons (.on (t := 15) rfl rfl (c_move rfl rfl (by decide) .tmp)) ⟨(congrArg mB hc6), rfl, trivial⟩ rfl <| .cons (.on (t := 15) rfl rfl (c_call (ins := [.one (.t (.sl (p0.map e57))), .one (.t (.v (.int .i64 3)))]) (caps := []) rfl rfl rfl (by decide) .clo (ref01_Of_calls _ _ _ hv4) (.cons .tmp (.cons (.const rfl) .nil)) rfl rfl)) ⟨(congrArg mB hc6), rfl, trivial⟩ rfl <| .cons (.on (t := 15) rfl rfl (k_len (i := Try.t3) (l := v4) (f := e3) (fun _ => rfl) (by decide) rfl rfl (by decide) Try.underlying42 (src_tree (f := e3) (fun _ => rfl) (by decide) .tmp))) ⟨(congrArg mB hc6), rfl, trivial⟩ rfl <| .cons (.on (t := 15) rfl rfl (c_gtr rfl rfl (by decide) .tmp (.const rfl))) ⟨(congrArg mB hc6), rfl, trivial⟩ rfl <| .cons (.plain rfl (c_pick (b := false) rfl rfl (by decide) .tmp rfl .tmp)) ⟨(congrArg mB hc6), rfl, trivial⟩ rfl <| .cons (.plain rfl (c_move rfl rfl (by decide) .tmp)) ⟨rfl, trivial⟩ rfl <| .cons (.on (t := 21) rfl rfl (c_move rfl rfl (by decide) .tmp)) ⟨(congrArg mB hc7), rfl, trivial⟩ rfl <| .cons (.on (t := 21) rfl rfl (k_index (f := e57) (i := Try.t57) hv5 rfl rfl rfl (by decide) Try.underlying22 i57 .tmp (.const rfl))) ⟨(congrArg mB hc7), rfl, trivial⟩ rfl <| .cons (.on (t := 21) rfl rfl (k_fieldT 3 0 rfl rfl (by decide) Try.underlying57 rfl i3 (by decide) .tmp)) ⟨(congrArg mB hc7), rfl, trivial⟩ rfl <| .cons (.on (t := 21) rfl rfl (c_loadTree rfl rfl (by decide) Try.isAgg3 .tmp rfl)) ⟨(congrArg mB hc7), rfl, trivial⟩ rfl <| .cons (.on (t := 21) rfl rfl (c_neq rfl rfl (by decide) .tmp (.const rfl))) ⟨(congrArg mB hc7), rfl, trivial⟩ rfl <| .cons (.plain rfl (c_pick (b := false) rfl rfl (by decide) .tmp rfl .tmp)) ⟨(congrArg mB hc7), rfl, trivial⟩ rfl <| .cons (.plain rfl (c_move rfl rfl (by decide) .tmp)) ⟨rfl, trivial⟩ rfl <| .cons (.on (t := 28) rfl rfl (c_move rfl rfl (by decide) .tmp)) ⟨(congrArg mB hc8), rfl, trivial⟩ rfl <| .cons (.on (t := 28) rfl rfl (k_index (f := e57) (i := Try.t57) hv6 rfl rfl rfl (by decide) Try.underlying22 i57 .tmp (.const rfl))) ⟨(congrArg mB hc8), rfl, trivial⟩ rfl <| .cons (.on (t := 28) rfl rfl (k_fieldT 3 1 rfl rfl (by decide) Try.underlying57 rfl i3 (by decide) .tmp)) ⟨(congrArg mB hc8), rfl, trivial⟩ rfl <| .cons (.on (t := 28) rfl rfl (c_loadTree rfl rfl (by decide) Try.isAgg3 .tmp rfl)) ⟨(congrArg mB hc8), rfl, trivial⟩ rfl <| .cons (.on (t := 28) rfl rfl (c_neq rfl rfl (by decide) .tmp (.const rfl))) ⟨(congrArg mB hc8), rfl, trivial⟩ rfl <| .cons (.plain rfl (c_pick (b := false) rfl rfl (by decide) .tmp rfl .tmp)) ⟨(congrArg mB hc8), rfl, trivial⟩ rfl <| .nil) ?_
            obtain rfl := Option.some.inj h
            show Goes _ _
            exact (Goes.into [] ⟨rfl, rfl, .refl, .refl, trivial⟩)
  · show AW _ _ _ _ _
    refine aw_cond .tmp ⟨rfl, trivial⟩ (fun hc9 => ?_) (fun hc9 => ?_)
    · have h := of_true hc9 h
      refine aw_seq ?_
      refine aw_region (.cons (.plain rfl (c_assign rfl rfl (by decide) (.const rfl))) trivial rfl <| .nil) ?_
      show AW _ _ _ _ _
      refine aw_goes (σ' := [(.tmp 2, .m (.one (.t (.v (.int .i64 2)))))]) (Goes.into [] ⟨rfl, rfl, .refl, trivial⟩) ?_
      refine aw_ret ?_
      obtain rfl := Option.some.inj h
      exact ⟨.inr rfl, _, [], (.tmp rfl .nil), rfl, rfl, rfl, ⟨rfl, rfl, trivial⟩⟩
    · have h := of_false hc9 h
      refine aw_skip ?_
      show AW _ _ _ _ _
      refine aw_seq ?_
      refine aw_seq ?_
      refine aw_region (.cons (.plain rfl (c_assign rfl rfl (by decide) (.const rfl))) trivial rfl <| .nil) ?_
      show AW _ _ _ _ _
      refine aw_loopJ (fun v26 : Int => [(.tmp 0, .m (.one (.t (.sl (p0.map e57))))), (.tmp 3, .m (.one (.t (.v (.int .i64 v26)))))]) (fun v27 : Unit => [(.tmp 0, .m (.one (.t (.sl (p0.map e57)))))]) h (Goes.into [] ⟨rfl, rfl, .refl, .refl, trivial⟩) (fun v26 _ h => ?_) (fun v27 h => ?_)
      · unfold ref01_Check_L1 at h
        refine aw_seq ?_
        refine aw_seq ?_
        refine aw_region (.cons (.plain rfl (c_move rfl rfl (by decide) .tmp)) ⟨rfl, trivial⟩ rfl <| .cons (.plain rfl (c_move rfl rfl (by decide) .tmp)) ⟨rfl, trivial⟩ rfl <| .cons (.plain rfl (k_len (i := Try.t57) (l := p0) (f := e57) (fun _ => rfl) (by decide) rfl rfl (by decide) Try.underlying22 (src_tree (f := e57) (fun _ => rfl) (by decide) .tmp))) ⟨rfl, trivial⟩ rfl <| .cons (.plain rfl (c_lss rfl rfl (by decide) .tmp .tmp)) ⟨rfl, rfl, trivial⟩ rfl <| .nil) ?_
        show AW _ _ _ _ _
        refine aw_cond .tmp ⟨rfl, trivial⟩ (fun hc26 => ?_) (fun hc26 => ?_)
        · have h := of_true hc26 h
          refine aw_skip ?_
          show AW _ _ _ _ _
          refine aw_seq ?_
          refine aw_block ?_
          refine aw_seq ?_
          obtain ⟨v28, hv28, h⟩ := bind_some h
          refine aw_region (.cons (.plain rfl (c_move rfl rfl (by decide) .tmp)) ⟨rfl, trivial⟩ rfl <| .cons (.plain rfl (c_move rfl rfl (by decide) .tmp)) ⟨rfl, trivial⟩ rfl <| .cons (.plain rfl (k_index (f := e57) (i := Try.t57) hv28 rfl rfl rfl (by decide) Try.underlying22 i57 .tmp .tmp)) ⟨rfl, rfl, trivial⟩ rfl <| .cons (.plain rfl (k_fieldT 3 0 rfl rfl (by decide) Try.underlying57 rfl i3 (by decide) .tmp)) ⟨rfl, trivial⟩ rfl <| .cons (.plain rfl (c_loadTree rfl rfl (by decide) Try.isAgg3 .tmp rfl)) ⟨rfl, trivial⟩ rfl <| .cons (.plain rfl (c_assign rfl rfl (by decide) .tmp)) ⟨rfl, trivial⟩ rfl <| .nil) ?_
          show AW _ _ _ _ _
          refine aw_seq ?_
          refine aw_cut0 (fun v35 : Bool => [(.tmp 0, .m (.one (.t (.sl (p0.map e57))))), (.tmp 3, .m (.one (.t (.v (.int .i64 v26))))), (.tmp 74, .m (.one (.t (.v (.bool v35)))))]) h (fun _ h => ?_) (fun v35 h => ?_)
          · cases hc30 : decide (v28.1 < 0) with
            | true =>
              have h := of_true hc30 h
              refine aw_region_draw mixed (.cons (.plain rfl (c_move rfl rfl (by decide) .tmp)) ⟨rfl, trivial⟩ rfl <| .cons (.plain rfl (c_lss rfl rfl (by decide) .tmp (.const rfl))) ⟨rfl, trivial⟩ rfl <| .cons (.plain rfl (c_move rfl rfl (by decide) .tmp)) ⟨rfl, trivial⟩ rfl <| .cons (.off (b' := true) rfl rfl rfl rfl (by decide)) ⟨(congrArg mB hc30), trivial⟩ rfl <| .cons (.off (b' := true) rfl rfl rfl rfl (by decide)) ⟨(congrArg mB hc30), trivial⟩ rfl <| .cons (.off (b' := true) rfl rfl rfl rfl (by decide)) ⟨(congrArg mB hc30), trivial⟩ rfl <| .cons (.plain rfl (c_pick (b := true) rfl rfl (by decide) .tmp rfl (.const rfl))) ⟨(congrArg mB hc30), trivial⟩ rfl <| .cons (.plain rfl (c_move rfl rfl (by decide) .tmp)) ⟨rfl, trivial⟩ rfl <| .cons (.off (b' := true) rfl rfl rfl rfl (by decide)) ⟨rfl, trivial⟩ rfl <| .cons (.off (b' := true) rfl rfl rfl rfl (by decide)) ⟨rfl, trivial⟩ rfl <| .cons (.off (b' := true) rfl rfl rfl rfl (by decide)) ⟨rfl, trivial⟩ rfl <| .cons (.off (b' := true) rfl rfl rfl rfl (by decide)) ⟨rfl, trivial⟩ rfl <| .cons (.off (b' := true) rfl rfl rfl rfl (by decide)) ⟨rfl, trivial⟩ rfl <| .cons (.off (b' := true) rfl rfl rfl rfl (by decide)) ⟨rfl, trivial⟩ rfl <| .cons (.off (b' := true) rfl rfl rfl rfl (by decide)) ⟨rfl, trivial⟩ rfl <| .cons (.off (b' := true) rfl rfl rfl rfl (by decide)) ⟨rfl, trivial⟩ rfl <| .cons (.off (b' := true) rfl rfl rfl rfl (by decide)) ⟨rfl, trivial⟩ rfl <| .cons (.off (b' := true) rfl rfl rfl rfl (by decide)) ⟨rfl, trivial⟩ rfl <| .cons (.off (b' := true) rfl rfl rfl rfl (by decide)) ⟨rfl, trivial⟩ rfl <| .cons (.off (b' := true) rfl rfl rfl rfl (by decide)) ⟨rfl, trivial⟩ rfl <| .cons (.plain rfl (c_pick (b := true) rfl rfl (by decide) .tmp rfl (.const rfl))) ⟨rfl, trivial⟩ rfl <| .cons (.plain rfl (c_move rfl rfl (by decide) .tmp)) ⟨rfl, trivial⟩ rfl <| .cons (.off (b' := true) rfl rfl rfl rfl (by decide)) ⟨rfl, trivial⟩ rfl <| .cons (.off (b' := true) rfl rfl rfl rfl (by decide)) ⟨rfl, trivial⟩ rfl <| .cons (.off (b' := true) rfl rfl rfl rfl (by decide)) ⟨rfl, trivial⟩ rfl <| .cons (.off (b' := true) rfl rfl rfl rfl (by decide)) ⟨rfl, trivial⟩ rfl <| .cons (.off (b' := true) rfl rfl rfl rfl (by decide)) ⟨rfl, trivial⟩ rfl <| .cons (.off (b' := true) rfl rfl rfl rfl (by decide)) ⟨rfl, trivial⟩ rfl <| .cons (.plain rfl (c_pick (b := true) rfl rfl (by decide) .tmp rfl (.const rfl))) ⟨rfl, trivial⟩ rfl <| .nil) rfl rfl ?_
              obtain rfl := Option.some.inj h
              show Goes _ _
              exact (Goes.into [] ⟨rfl, rfl, .refl, .refl, .refl, trivial⟩)
            | false =>
              have h := of_false hc30 h
              cases hc31 : decide (v26 ≤ v28.1) with
              | true =>
                have h := of_true hc31 h
                refine aw_region_draw mixed (.cons (.plain rfl (c_move rfl rfl (by decide) .tmp)) ⟨rfl, trivial⟩ rfl <| .cons (.plain rfl (c_lss rfl rfl (by decide) .tmp (.const rfl))) ⟨rfl, trivial⟩ rfl <| .cons (.plain rfl (c_move rfl rfl (by decide) .tmp)) ⟨rfl, trivial⟩ rfl <| .cons (.on (t := 48) rfl rfl (c_move rfl rfl (by decide) .tmp)) ⟨(congrArg mB hc30), rfl, trivial⟩ rfl <| .cons (.on (t := 48) rfl rfl (c_move rfl rfl (by decide) .tmp)) ⟨(congrArg mB hc30), rfl, trivial⟩ rfl <| .cons (.on (t := 48) rfl rfl (c_geq rfl rfl (by decide) .tmp .tmp)) ⟨(congrArg mB hc30), rfl, rfl, trivial⟩ rfl <| .cons (.plain rfl (c_pick (b := false) rfl rfl (by decide) .tmp rfl .tmp)) ⟨(congrArg mB hc30), rfl, trivial⟩ rfl <| .cons (.plain rfl (c_move rfl rfl (by decide) .tmp)) ⟨rfl, trivial⟩ rfl <| .cons (.off (b' := true) rfl rfl rfl rfl (by decide)) ⟨(congrArg mB hc31), trivial⟩ rfl <| .cons (.off (b' := true) rfl rfl rfl rfl (by decide)) ⟨(congrArg mB hc31), trivial⟩ rfl <| .cons (.off (b' := true) rfl rfl rfl rfl (by decide)) ⟨(congrArg mB hc31), trivial⟩ rfl <| .cons (.off (b' := true) rfl rfl rfl rfl (by decide)) ⟨(congrArg mB hc31), trivial⟩ rfl <| .cons (.off (b' := true) rfl rfl rfl rfl (by decide)) ⟨(congrArg mB hc31), trivial⟩ rfl <| .cons (.off (b' := true) rfl rfl rfl rfl (by decide)) ⟨(congrArg mB hc31), trivial⟩ rfl <| .cons (.off (b' := true) rfl rfl rfl rfl (by decide)) ⟨(congrArg mB hc31), trivial⟩ rfl <| .cons (.off (b' := true) rfl rfl rfl rfl (by decide)) ⟨(congrArg mB hc31), trivial⟩ rfl <| .cons (.off (b' := true) rfl rfl rfl rfl (by decide)) ⟨(congrArg mB hc31), trivial⟩ rfl <| .cons (.off (b' := true) rfl rfl rfl rfl (by decide)) ⟨(congrArg mB hc31), trivial⟩ rfl <| .cons (.off (b' := true) rfl rfl rfl rfl (by decide)) ⟨(congrArg mB hc31), trivial⟩ rfl <| .cons (.off (b' := true) rfl rfl rfl rfl (by decide)) ⟨(congrArg mB hc31), trivial⟩ rfl <| .cons (.plain rfl (c_pick (b := true) rfl rfl (by decide) .tmp rfl (.const rfl))) ⟨(congrArg mB hc31), trivial⟩ rfl <| .cons (.plain rfl (c_move rfl rfl (by decide) .tmp)) ⟨rfl, trivial⟩ rfl <| .cons (.off (b' := true) rfl rfl rfl rfl (by decide)) ⟨rfl, trivial⟩ rfl <| .cons (.off (b' := true) rfl rfl rfl rfl (by decide)) ⟨rfl, trivial⟩ rfl <| .cons (.off (b' := true) rfl rfl rfl rfl (by decide)) ⟨rfl, trivial⟩ rfl <| .cons (.off (b' := true) rfl rfl rfl rfl (by decide)) ⟨rfl, trivial⟩ rfl <| .cons (.off (b' := true) rfl rfl rfl rfl (by decide)) ⟨rfl, trivial⟩ rfl <| .cons (.off (b' := true) rfl rfl rfl rfl (by decide)) ⟨rfl, trivial⟩ rfl <| .cons (.plain rfl (c_pick (b := true) rfl rfl (by decide) .tmp rfl (.const rfl))) ⟨rfl, trivial⟩ rfl <| .nil) rfl rfl ?_
                obtain rfl := Option.some.inj h
                show Goes _ _
                exact (Goes.into [] ⟨rfl, rfl, .refl, .refl, .refl, trivial⟩)
              | false =>
                have h := of_false hc31 h
                obtain ⟨v32, hv32, h⟩ := bind_some h
                obtain ⟨v33, hv33, h⟩ := bind_some h
                cases hc32 : !decide (v32.2 = wi64 (v33.2 + 1)) with
                | true =>
                  have h := of_true hc32 h
                  refine aw_region_draw mixed (.cons (.plain rfl (c_move rfl rfl (by decide) .tmp)) ⟨rfl, trivial⟩ rfl <| .cons (.plain rfl (c_lss rfl rfl (by decide) .tmp (.const rfl))) ⟨rfl, trivial⟩ rfl <| .cons (.plain rfl (c_move rfl rfl (by decide) .tmp)) ⟨rfl, trivial⟩ rfl <| .cons (.on (t := 48) rfl rfl (c_move rfl rfl (by decide) .tmp)) ⟨(congrArg mB hc30), rfl, trivial⟩ rfl <| .cons (.on (t := 48) rfl rfl (c_move rfl rfl (by decide) .tmp)) ⟨(congrArg mB hc30), rfl, trivial⟩ rfl <| .cons (.on (t := 48) rfl rfl (c_geq rfl rfl (by decide) .tmp .tmp)) ⟨(congrArg mB hc30), rfl, rfl, trivial⟩ rfl <| .cons (.plain rfl (c_pick (b := false) rfl rfl (by decide) .tmp rfl .tmp)) ⟨(congrArg mB hc30), rfl, trivial⟩ rfl <| .cons (.plain rfl (c_move rfl rfl (by decide) .tmp)) ⟨rfl, trivial⟩ rfl <| .cons (.on (t := 53) rfl rfl (c_move rfl rfl (by decide) .tmp)) ⟨(congrArg mB hc31), rfl, trivial⟩ rfl <| .cons (.on (t := 53) rfl rfl (c_move rfl rfl (by decide) .tmp)) ⟨(congrArg mB hc31), rfl, trivial⟩ rfl <| .cons (.on (t := 53) rfl rfl (k_index (f := e57) (i := Try.t57) hv32 rfl rfl rfl (by decide) Try.underlying22 i57 .tmp .tmp)) ⟨(congrArg mB hc31), rfl, rfl, trivial⟩ rfl <| .cons (.on (t := 53) rfl rfl (k_fieldT 3 1 rfl rfl (by decide) Try.underlying57 rfl i3 (by decide) .tmp)) ⟨(congrArg mB hc31), rfl, trivial⟩ rfl <| .cons (.on (t := 53) rfl rfl (c_loadTree rfl rfl (by decide) Try.isAgg3 .tmp rfl)) ⟨(congrArg mB hc31), rfl, trivial⟩ rfl <| .cons (.on (t := 53) rfl rfl (c_move rfl rfl (by decide) .tmp)) ⟨(congrArg mB hc31), rfl, trivial⟩ rfl <| .cons (.on (t := 53) rfl rfl (c_move rfl rfl (by decide) .tmp)) ⟨(congrArg mB hc31), rfl, trivial⟩ rfl <| .cons (.on (t := 53) rfl rfl (k_index (f := e57) (i := Try.t57) hv33 rfl rfl rfl (by decide) Try.underlying22 i57 .tmp .tmp)) ⟨(congrArg mB hc31), rfl, rfl, trivial⟩ rfl <| .cons (.on (t := 53) rfl rfl (k_fieldT 3 1 rfl rfl (by decide) Try.underlying57 rfl i3 (by decide) .tmp)) ⟨(congrArg mB hc31), rfl, trivial⟩ rfl <| .cons (.on (t := 53) rfl rfl (c_loadTree rfl rfl (by decide) Try.isAgg3 .tmp rfl)) ⟨(congrArg mB hc31), rfl, trivial⟩ rfl <| .cons (.on (t := 53) rfl rfl (c_add rfl rfl (by decide) .tmp (.const rfl))) ⟨(congrArg mB hc31), rfl, trivial⟩ rfl <| .cons (.on (t := 53) rfl rfl (c_neq rfl rfl (by decide) .tmp .tmp)) ⟨(congrArg mB hc31), rfl, rfl, trivial⟩ rfl <| .cons (.plain rfl (c_pick (b := false) rfl rfl (by decide) .tmp rfl .tmp)) ⟨(congrArg mB hc31), rfl, trivial⟩ rfl <| .cons (.plain rfl (c_move rfl rfl (by decide) .tmp)) ⟨rfl, trivial⟩ rfl <| .cons (.off (b' := true) rfl rfl rfl rfl (by decide)) ⟨(congrArg mB hc32), trivial⟩ rfl <| .cons (.off (b' := true) rfl rfl rfl rfl (by decide)) ⟨(congrArg mB hc32), trivial⟩ rfl <| .cons (.off (b' := true) rfl rfl rfl rfl (by decide)) ⟨(congrArg mB hc32), trivial⟩ rfl <| .cons (.off (b' := true) rfl rfl rfl rfl (by decide)) ⟨(congrArg mB hc32), trivial⟩ rfl <| .cons (.off (b' := true) rfl rfl rfl rfl (by decide)) ⟨(congrArg mB hc32), trivial⟩ rfl <| .cons (.off (b' := true) rfl rfl rfl rfl (by decide)) ⟨(congrArg mB hc32), trivial⟩ rfl <| .cons (.plain rfl (c_pick (b := true) rfl rfl (by decide) .tmp rfl (.const rfl))) ⟨(congrArg mB hc32), trivial⟩ rfl <| .nil) rfl rfl ?_
                  obtain rfl := Option.some.inj h
                  show Goes _ _
                  exact (Goes.into [] ⟨rfl, rfl, .refl, .refl, .refl, trivial⟩)
                | false =>
                  have h := of_false hc32 h
                  obtain ⟨v34, hv34, h⟩ := bind_some h
                  refine aw_region_draw mixed (.cons (.plain rfl (c_move rfl rfl (by decide) .tmp)) ⟨rfl, trivial⟩ rfl <| .cons (.plain rfl (c_lss rfl rfl (by decide) .tmp (.const rfl))) ⟨rfl, trivial⟩ rfl <| .cons (.plain rfl (c_move rfl rfl (by decide) .tmp)) ⟨rfl, trivial⟩ rfl <| .cons (.on (t := 48) rfl rfl (c_move rfl rfl (by decide) .tmp)) ⟨(congrArg mB hc30), rfl, trivial⟩ rfl <| .cons (.on (t := 48) rfl rfl (c_move rfl rfl (by decide) .tmp)) ⟨(congrArg mB hc30), rfl, trivial⟩ rfl <| .cons (.on (t := 48) rfl rfl (c_geq rfl rfl (by decide) .tmp .tmp)) ⟨(congrArg mB hc30), rfl, rfl, trivial⟩ rfl <| .cons (.plain rfl (c_pick (b := false) rfl rfl (by decide) .tmp rfl .tmp)) ⟨(congrArg mB hc30), rfl, trivial⟩ rfl <| .cons (.plain rfl (c_move rfl rfl (by decide) .tmp)) ⟨rfl, trivial⟩ rfl <| .cons (.on (t := 53) rfl rfl (c_move rfl rfl (by decide) .tmp)) ⟨(congrArg mB hc31), rfl, trivial⟩ rfl <| .cons (.on (t := 53) rfl rfl (c_move rfl rfl (by decide) .tmp)) ⟨(congrArg mB hc31), rfl, trivial⟩ rfl <| .cons (.on (t := 53) rfl rfl (k_index (f := e57) (i := Try.t57) hv32 rfl rfl rfl (by decide) Try.underlying22 i57 .tmp .tmp)) ⟨(congrArg mB hc31), rfl, rfl, trivial⟩ rfl <| .cons (.on (t := 53) rfl rfl (k_fieldT 3 1 rfl rfl (by decide) Try.underlying57 rfl i3 (by decide) .tmp)) ⟨(congrArg mB hc31), rfl, trivial⟩ rfl <| .cons (.on (t := 53) rfl rfl (c_loadTree rfl rfl (by decide) Try.isAgg3 .tmp rfl)) ⟨(congrArg mB hc31), rfl, trivial⟩ rfl <| .cons (.on (t := 53) rfl rfl (c_move rfl rfl (by decide) .tmp)) ⟨(congrArg mB hc31), rfl, trivial⟩ rfl <| .cons (.on (t := 53) rfl rfl (c_move rfl rfl (by decide) .tmp)) ⟨(congrArg mB hc31), rfl, trivial⟩ rfl <| .cons (.on (t := 53) rfl rfl (k_index (f := e57) (i := Try.t57) hv33 rfl rfl rfl (by decide) Try.underlying22 i57 .tmp .tmp)) ⟨(congrArg mB hc31), rfl, rfl, trivial⟩ rfl <| .cons (.on (t := 53) rfl rfl (k_fieldT 3 1 rfl rfl (by decide) Try.underlying57 rfl i3 (by decide) .tmp)) ⟨(congrArg mB hc31), rfl, trivial⟩ rfl <| .cons (.on (t := 53) rfl rfl (c_loadTree rfl rfl (by decide) Try.isAgg3 .tmp rfl)) ⟨(congrArg mB hc31), rfl, trivial⟩ rfl <| .cons (.on (t := 53) rfl rfl (c_add rfl rfl (by decide) .tmp (.const rfl))) ⟨(congrArg mB hc31), rfl, trivial⟩ rfl <| .cons (.on (t := 53) rfl rfl (c_neq rfl rfl (by decide) .tmp .tmp)) ⟨(congrArg mB hc31), rfl, rfl, trivial⟩ rfl <| .cons (.plain rfl (c_pick (b := false) rfl rfl (by decide) .tmp rfl .tmp)) ⟨(congrArg mB hc31), rfl, trivial⟩ rfl <| .cons (.plain rfl (c_move rfl rfl (by decide) .tmp)) ⟨rfl, trivial⟩ rfl <| .cons (.on (t := 67) rfl rfl (c_move rfl rfl (by decide) .tmp)) ⟨(congrArg mB hc32), rfl, trivial⟩ rfl <| .cons (.on (t := 67) rfl rfl (c_move rfl rfl (by decide) .tmp)) ⟨(congrArg mB hc32), rfl, trivial⟩ rfl <| .cons (.on (t := 67) rfl rfl (k_index (f := e57) (i := Try.t57) hv34 rfl rfl rfl (by decide) Try.underlying22 i57 .tmp .tmp)) ⟨(congrArg mB hc32), rfl, rfl, trivial⟩ rfl <| .cons (.on (t := 67) rfl rfl (k_fieldT 3 1 rfl rfl (by decide) Try.underlying57 rfl i3 (by decide) .tmp)) ⟨(congrArg mB hc32), rfl, trivial⟩ rfl <| .cons (.on (t := 67) rfl rfl (c_loadTree rfl rfl (by decide) Try.isAgg3 .tmp rfl)) ⟨(congrArg mB hc32), rfl, trivial⟩ rfl <| .cons (.on (t := 67) rfl rfl (c_gtr rfl rfl (by decide) .tmp (.const rfl))) ⟨(congrArg mB hc32), rfl, trivial⟩ rfl <| .cons (.plain rfl (c_pick (b := false) rfl rfl (by decide) .tmp rfl .tmp)) ⟨(congrArg mB hc32), rfl, trivial⟩ rfl <| .nil) rfl rfl ?_
                  obtain rfl := Option.some.inj h
                  show Goes _ _
                  exact (Goes.into [] ⟨rfl, rfl, .refl, .refl, .refl, trivial⟩)
          · show AW _ _ _ _ _
            refine aw_cond .tmp ⟨rfl, trivial⟩ (fun hc33 => ?_) (fun hc33 => ?_)
            · have h := of_true hc33 h
              refine aw_seq ?_
              refine aw_region (.cons (.plain rfl (c_assign rfl rfl (by decide) (.const rfl))) trivial rfl <| .nil) ?_
              show AW _ _ _ _ _
              refine aw_goes (σ' := [(.tmp 2, .m (.one (.t (.v (.int .i64 2)))))]) (Goes.into [] ⟨rfl, rfl, .refl, trivial⟩) ?_
              refine aw_ret ?_
              obtain rfl := Option.some.inj h
              refine ⟨_, rfl, fun h => ?_⟩
              obtain rfl := Option.some.inj h
              exact ⟨.inr rfl, _, [], (.tmp rfl .nil), rfl, rfl, rfl, ⟨rfl, rfl, trivial⟩⟩
            · have h := of_false hc33 h
              refine aw_skip ?_
              show AW _ _ _ _ _
              refine aw_region (.cons (.plain rfl (c_move rfl rfl (by decide) .tmp)) ⟨rfl, trivial⟩ rfl <| .cons (.plain rfl (c_add rfl rfl (by decide) .tmp (.const rfl))) ⟨rfl, trivial⟩ rfl <| .cons (.plain rfl (c_assign rfl rfl (by decide) .tmp)) ⟨rfl, trivial⟩ rfl <| .nil) ?_
              obtain rfl := Option.some.inj h
              exact ⟨_, rfl, (Goes.into [] ⟨rfl, rfl, .refl, .refl, trivial⟩)⟩
        · have h := of_false hc26 h
          refine aw_exit ?_
          obtain rfl := Option.some.inj h
          exact ⟨_, rfl, (Goes.into [] ⟨rfl, rfl, .refl, trivial⟩)⟩
      · show AW _ _ _ _ _
        refine aw_seq ?_
        refine aw_seq ?_
        refine aw_region (.cons (.plain rfl (c_assign rfl rfl (by decide) (.const rfl))) trivial rfl <| .nil) ?_
        show AW _ _ _ _ _
        refine aw_loopJ (fun v46 : Int => [(.tmp 0, .m (.one (.t (.sl (p0.map e57))))), (.tmp 5, .m (.one (.t (.v (.int .i64 v46)))))]) (fun v47 : Unit => []) h (Goes.into [] ⟨rfl, rfl, .refl, .refl, trivial⟩) (fun v46 _ h => ?_) (fun v47 h => ?_)
        · unfold ref01_Check_L2 at h
          refine aw_seq ?_
          refine aw_seq ?_
          refine aw_region (.cons (.plain rfl (c_move rfl rfl (by decide) .tmp)) ⟨rfl, trivial⟩ rfl <| .cons (.plain rfl (c_move rfl rfl (by decide) .tmp)) ⟨rfl, trivial⟩ rfl <| .cons (.plain rfl (k_len (i := Try.t57) (l := p0) (f := e57) (fun _ => rfl) (by decide) rfl rfl (by decide) Try.underlying22 (src_tree (f := e57) (fun _ => rfl) (by decide) .tmp))) ⟨rfl, trivial⟩ rfl <| .cons (.plain rfl (c_lss rfl rfl (by decide) .tmp .tmp)) ⟨rfl, rfl, trivial⟩ rfl <| .nil) ?_
          show AW _ _ _ _ _
          refine aw_cond .tmp ⟨rfl, trivial⟩ (fun hc46 => ?_) (fun hc46 => ?_)
          · have h := of_true hc46 h
            refine aw_skip ?_
            show AW _ _ _ _ _
            refine aw_seq ?_
            refine aw_block ?_
            refine aw_seq ?_
            obtain ⟨v48, hv48, h⟩ := bind_some h
            refine aw_region (.cons (.plain rfl (c_move rfl rfl (by decide) .tmp)) ⟨rfl, trivial⟩ rfl <| .cons (.plain rfl (c_move rfl rfl (by decide) .tmp)) ⟨rfl, trivial⟩ rfl <| .cons (.plain rfl (c_call (ins := [.one (.t (.sl (p0.map e57))), .one (.t (.v (.int .i64 v46)))]) (caps := []) rfl rfl rfl (by decide) .clo (ref01_Kids_calls _ _ _ hv48) (.cons .tmp (.cons .tmp .nil)) rfl rfl)) ⟨rfl, rfl, trivial⟩ rfl <| .cons (.plain rfl (k_len (i := Try.t3) (l := v48) (f := e3) (fun _ => rfl) (by decide) rfl rfl (by decide) Try.underlying42 (src_tree (f := e3) (fun _ => rfl) (by decide) .tmp))) ⟨rfl, trivial⟩ rfl <| .cons (.plain rfl (c_assign rfl rfl (by decide) .tmp)) ⟨rfl, trivial⟩ rfl <| .nil) ?_
            show AW _ _ _ _ _
            refine aw_seq ?_
            refine aw_cut0 (fun v51 : Bool => [(.tmp 0, .m (.one (.t (.sl (p0.map e57))))), (.tmp 5, .m (.one (.t (.v (.int .i64 v46))))), (.tmp 98, .m (.one (.t (.v (.bool v51)))))]) h (fun _ h => ?_) (fun v51 h => ?_)
            · obtain ⟨v50, hv50, h⟩ := bind_some h
              cases hc49 : decide (v50.2 < 3) with
              | true =>
                have h := of_true hc49 h
                cases hc50 : decide ((v48.length : Int) < 1) with
                | true =>
                  have h := of_true hc50 h
                  refine aw_region (.cons (.plain rfl (c_move rfl rfl (by decide) .tmp)) ⟨rfl, trivial⟩ rfl <| .cons (.plain rfl (c_move rfl rfl (by decide) .tmp)) ⟨rfl, trivial⟩ rfl <| .cons (.plain rfl (k_index (f := e57) (i := Try.t57) hv50 rfl rfl rfl (by decide) Try.underlying22 i57 .tmp .tmp)) ⟨rfl, rfl, trivial⟩ rfl <| .cons (.plain rfl (k_fieldT 3 1 rfl rfl (by decide) Try.underlying57 rfl i3 (by decide) .tmp)) ⟨rfl, trivial⟩ rfl <| .cons (.plain rfl (c_loadTree rfl rfl (by decide) Try.isAgg3 .tmp rfl)) ⟨rfl, trivial⟩ rfl <| .cons (.plain rfl (c_lss rfl rfl (by decide) .tmp (.const rfl))) ⟨rfl, trivial⟩ rfl <| .cons (.plain rfl (c_move rfl rfl (by decide) .tmp)) ⟨rfl, trivial⟩ rfl <| .cons (.on (t := 91) rfl rfl (c_move rfl rfl (by decide) .tmp)) ⟨(congrArg mB hc49), rfl, trivial⟩ rfl <| .cons (.on (t := 91) rfl rfl (c_lss rfl rfl (by decide) .tmp (.const rfl))) ⟨(congrArg mB hc49), rfl, trivial⟩ rfl <| .cons (.on (t := 91) rfl rfl (c_move rfl rfl (by decide) .tmp)) ⟨(congrArg mB hc49), rfl, trivial⟩ rfl <| .cons (.off (b' := true) rfl rfl rfl rfl (by decide)) ⟨(congrArg mB hc50), trivial⟩ rfl <| .cons (.off (b' := true) rfl rfl rfl rfl (by decide)) ⟨(congrArg mB hc50), trivial⟩ rfl <| .cons (.on (t := 91) rfl rfl (c_pick (b := true) rfl rfl (by decide) .tmp rfl (.const rfl))) ⟨(congrArg mB hc49), (congrArg mB hc50), trivial⟩ rfl <| .cons (.plain rfl (c_pick (b := true) rfl rfl (by decide) .tmp rfl .tmp)) ⟨(congrArg mB hc49), rfl, trivial⟩ rfl <| .nil) ?_
                  obtain rfl := Option.some.inj h
                  show Goes _ _
                  exact (Goes.into [] ⟨rfl, rfl, .refl, .refl, .refl, trivial⟩)
                | false =>
                  have h := of_false hc50 h
                  refine aw_region (.cons (.plain rfl (c_move rfl rfl (by decide) .tmp)) ⟨rfl, trivial⟩ rfl <| .cons (.plain rfl (c_move rfl rfl (by decide) .tmp)) ⟨rfl, trivial⟩ rfl <| .cons (.plain rfl (k_index (f := e57) (i := Try.t57) hv50 rfl rfl rfl (by decide) Try.underlying22 i57 .tmp .tmp)) ⟨rfl, rfl, trivial⟩ rfl <| .cons (.plain rfl (k_fieldT 3 1 rfl rfl (by decide) Try.underlying57 rfl i3 (by decide) .tmp)) ⟨rfl, trivial⟩ rfl <| .cons (.plain rfl (c_loadTree rfl rfl (by decide) Try.isAgg3 .tmp rfl)) ⟨rfl, trivial⟩ rfl <| .cons (.plain rfl (c_lss rfl rfl (by decide) .tmp (.const rfl))) ⟨rfl, trivial⟩ rfl <| .cons (.plain rfl (c_move rfl rfl (by decide) .tmp)) ⟨rfl, trivial⟩ rfl <| .cons (.on (t := 91) rfl rfl (c_move rfl rfl (by decide) .tmp)) ⟨(congrArg mB hc49), rfl, trivial⟩ rfl <| .cons (.on (t := 91) rfl rfl (c_lss rfl rfl (by decide) .tmp (.const rfl))) ⟨(congrArg mB hc49), rfl, trivial⟩ rfl <| .cons (.on (t := 91) rfl rfl (c_move rfl rfl (by decide) .tmp)) ⟨(congrArg mB hc49), rfl, trivial⟩ rfl <| .cons (.on (t := 94) rfl rfl (c_move rfl rfl (by decide) .tmp)) ⟨(congrArg mB hc50), rfl, trivial⟩ rfl <| .cons (.on (t := 94) rfl rfl (c_gtr rfl rfl (by decide) .tmp (.const rfl))) ⟨(congrArg mB hc50), rfl, trivial⟩ rfl <| .cons (.on (t := 91) rfl rfl (c_pick (b := false) rfl rfl (by decide) .tmp rfl .tmp)) ⟨(congrArg mB hc49), (congrArg mB hc50), rfl, trivial⟩ rfl <| .cons (.plain rfl (c_pick (b := true) rfl rfl (by decide) .tmp rfl .tmp)) ⟨(congrArg mB hc49), rfl, trivial⟩ rfl <| .nil) ?_
                  obtain rfl := Option.some.inj h
                  show Goes _ _
                  exact (Goes.into [] ⟨rfl, rfl, .refl, .refl, .refl, trivial⟩)
              | false =>
                have h := of_false hc49 h
                refine aw_region (.cons (.plain rfl (c_move rfl rfl (by decide) .tmp)) ⟨rfl, trivial⟩ rfl <| .cons (.plain rfl (c_move rfl rfl (by decide) .tmp)) ⟨rfl, trivial⟩ rfl <| .cons (.plain rfl (k_index (f := e57) (i := Try.t57) hv50 rfl rfl rfl (by decide) Try.underlying22 i57 .tmp .tmp)) ⟨rfl, rfl, trivial⟩ rfl <| .cons (.plain rfl (k_fieldT 3 1 rfl rfl (by decide) Try.underlying57 rfl i3 (by decide) .tmp)) ⟨rfl, trivial⟩ rfl <| .cons (.plain rfl (c_loadTree rfl rfl (by decide) Try.isAgg3 .tmp rfl)) ⟨rfl, trivial⟩ rfl <| .cons (.plain rfl (c_lss rfl rfl (by decide) .tmp (.const rfl))) ⟨rfl, trivial⟩ rfl <| .cons (.plain rfl (c_move rfl rfl (by decide) .tmp)) ⟨rfl, trivial⟩ rfl <| .cons (.off (b' := false) rfl rfl rfl rfl (by decide)) ⟨(congrArg mB hc49), trivial⟩ rfl <| .cons (.off (b' := false) rfl rfl rfl rfl (by decide)) ⟨(congrArg mB hc49), trivial⟩ rfl <| .cons (.off (b' := false) rfl rfl rfl rfl (by decide)) ⟨(congrArg mB hc49), trivial⟩ rfl <| .cons (.offU rfl rfl rfl (by decide)) ⟨rfl, trivial⟩ rfl <| .cons (.offU rfl rfl rfl (by decide)) ⟨rfl, trivial⟩ rfl <| .cons (.off (b' := false) rfl rfl rfl rfl (by decide)) ⟨(congrArg mB hc49), trivial⟩ rfl <| .cons (.plain rfl (c_pick (b := false) rfl rfl (by decide) .tmp rfl (.const rfl))) ⟨(congrArg mB hc49), trivial⟩ rfl <| .nil) ?_
                obtain rfl := Option.some.inj h
                show Goes _ _
                exact (Goes.into [] ⟨rfl, rfl, .refl, .refl, .refl, trivial⟩)
            · show AW _ _ _ _ _
              refine aw_cond .tmp ⟨rfl, trivial⟩ (fun hc51 => ?_) (fun hc51 => ?_)
              · have h := of_true hc51 h
                refine aw_seq ?_
                refine aw_region (.cons (.plain rfl (c_assign rfl rfl (by decide) (.const rfl))) trivial rfl <| .nil) ?_
                show AW _ _ _ _ _
                refine aw_goes (σ' := [(.tmp 2, .m (.one (.t (.v (.int .i64 2)))))]) (Goes.into [] ⟨rfl, rfl, .refl, trivial⟩) ?_
                refine aw_ret ?_
                obtain rfl := Option.some.inj h
                refine ⟨_, rfl, fun h => ?_⟩
                obtain rfl := Option.some.inj h
                exact ⟨.inr rfl, _, [], (.tmp rfl .nil), rfl, rfl, rfl, ⟨rfl, rfl, trivial⟩⟩
              · have h := of_false hc51 h
                refine aw_skip ?_
                show AW _ _ _ _ _
                refine aw_region (.cons (.plain rfl (c_move rfl rfl (by decide) .tmp)) ⟨rfl, trivial⟩ rfl <| .cons (.plain rfl (c_add rfl rfl (by decide) .tmp (.const rfl))) ⟨rfl, trivial⟩ rfl <| .cons (.plain rfl (c_assign rfl rfl (by decide) .tmp)) ⟨rfl, trivial⟩ rfl <| .nil) ?_
                obtain rfl := Option.some.inj h
                exact ⟨_, rfl, (Goes.into [] ⟨rfl, rfl, .refl, .refl, trivial⟩)⟩
          · have h := of_false hc46 h
            refine aw_exit ?_
            obtain rfl := Option.some.inj h
            exact ⟨_, rfl, (Goes.into [] ⟨rfl, rfl, trivial⟩)⟩
        · show AW _ _ _ _ _
          refine aw_seq ?_
          refine aw_region (.cons (.plain rfl (c_assign rfl rfl (by decide) (.const rfl))) trivial rfl <| .nil) ?_
          show AW _ _ _ _ _
          refine aw_goes (σ' := [(.tmp 2, .m (.one (.t (.v (.int .i64 0)))))]) (Goes.into [] ⟨rfl, rfl, .refl, trivial⟩) ?_
          refine aw_ret ?_
          obtain rfl := Option.some.inj h
          exact ⟨.inr rfl, _, [], (.tmp rfl .nil), rfl, rfl, rfl, ⟨rfl, rfl, trivial⟩⟩

def ref04_May_L1 (v1 : List (Int)) (v22 : Int) : Option (Int ⊕ (Unit ⊕ Bool)) := bif decide (v22 < (v1.length : Int)) then ((at_ v1 v22).bind fun v28 => bif decide (v28 < 1) then some true else (take_ v1 v22).bind fun v29 => (at_ v1 v22).bind fun v30 => (ref01_In v29 v30).bind fun v31 => some v31 : Option Bool).bind fun v32 => bif v32 then some (.inr (.inr false)) else some (.inl (wi64 (v22 + 1))) else some (.inr (.inl (())))
def ref04_May (p0_0 : Int) (p0_1 : List (Int)) (p1 : Int) : Option Bool := (ref04_All p0_0 p0_1).bind fun v1 => (loopO (ref04_May_L1 v1) fuel 0).bind fun s => s.elim (fun v23 => (bif decide ((p0_1.length : Int) ≤ p1) then some true else some (decide ((p0_1.length : Int) ≤ 2)) : Option Bool).bind fun v33 => some v33) (fun j : Bool => some j)
theorem ref04_May_calls (p0_0 : Int) (p0_1 : List (Int)) (p1 : Int) (r : Bool) (h : ref04_May p0_0 p0_1 p1 = some r) : ACalls Try.prog 49 [.agg [.t (.v (.int .i64 p0_0)), .t (.sl (p0_1.map e3))], .one (.t (.v (.int .i64 p1)))] [] (.one (.t (.v (.bool r)))) [] := by
  unfold ref04_May at h
  refine acalls_of_AW Try.func49 rfl Try.call49 (by decide) (show 2 ≤ 41 by decide) rfl rfl ?_
  refine aw_seq ?_
  refine aw_region (.cons (.plain rfl (k_boxN rfl rfl (by decide) .tmp rfl)) ⟨rfl, trivial⟩ rfl <| .cons (.plain rfl (c_assign rfl rfl (by decide) (.const rfl))) trivial rfl <| .nil) ?_
  show AW _ _ _ _ _
  refine aw_seq ?_
  obtain ⟨v1, hv1, h⟩ := bind_some h
  refine aw_region (.cons (.plain rfl (c_loadBox (cs := [.t (.v (.int .i64 p0_0)), .t (.sl (p0_1.map e3))]) rfl rfl (by decide) Try.isAgg58 i58 rfl .tmp)) ⟨rfl, rfl, rfl, trivial⟩ rfl <| .cons (.plain rfl (c_call (ins := [.agg [.t (.v (.int .i64 p0_0)), .t (.sl (p0_1.map e3))]]) (caps := []) rfl rfl rfl (by decide) .clo (ref04_All_calls _ _ _ hv1) (.cons .tmp .nil) rfl rfl)) ⟨rfl, trivial⟩ rfl <| .cons (.plain rfl (c_assign rfl rfl (by decide) .tmp)) ⟨rfl, trivial⟩ rfl <| .nil) ?_
  show AW _ _ _ _ _
  refine aw_seq ?_
  refine aw_seq ?_
  refine aw_region (.cons (.plain rfl (c_assign rfl rfl (by decide) (.const rfl))) trivial rfl <| .nil) ?_
  show AW _ _ _ _ _
  refine aw_loopJ (fun v22 : Int => [(.tmp 1, .m (.one (.t (.v (.int .i64 p1))))), (.tmp 2, .m (.one (.ptr 2 0))), (.tmp 5, .m (.one (.t (.sl (v1.map e3))))), (.tmp 6, .m (.one (.t (.v (.int .i64 v22))))), (.cell 2 0, .c (.t (.v (.int .i64 p0_0)))), (.cell 2 1, .c (.t (.sl (p0_1.map e3))))]) (fun v23 : Unit => [(.tmp 1, .m (.one (.t (.v (.int .i64 p1))))), (.tmp 2, .m (.one (.ptr 2 0))), (.cell 2 0, .c (.t (.v (.int .i64 p0_0)))), (.cell 2 1, .c (.t (.sl (p0_1.map e3))))]) h (Goes.into [(2, 2)] ⟨rfl, rfl, .refl, .refl, .refl, .refl, .refl, .refl, trivial⟩) (fun v22 _ h => ?_) (fun v23 h => ?_)
  · unfold ref04_May_L1 at h
    refine aw_seq ?_
    refine aw_seq ?_
    refine aw_region (.cons (.plain rfl (c_move rfl rfl (by decide) .tmp)) ⟨rfl, trivial⟩ rfl <| .cons (.plain rfl (c_move rfl rfl (by decide) .tmp)) ⟨rfl, trivial⟩ rfl <| .cons (.plain rfl (k_len (i := Try.t3) (l := v1) (f := e3) (fun _ => rfl) (by decide) rfl rfl (by decide) Try.underlying42 (src_tree (f := e3) (fun _ => rfl) (by decide) .tmp))) ⟨rfl, trivial⟩ rfl <| .cons (.plain rfl (c_lss rfl rfl (by decide) .tmp .tmp)) ⟨rfl, rfl, trivial⟩ rfl <| .nil) ?_
    show AW _ _ _ _ _
    refine aw_cond .tmp ⟨rfl, trivial⟩ (fun hc9 => ?_) (fun hc9 => ?_)
    · have h := of_true hc9 h
      refine aw_skip ?_
      show AW _ _ _ _ _
      refine aw_seq ?_
      refine aw_block ?_
      refine aw_seq ?_
      refine aw_cut0 (fun v32 : Bool => [(.tmp 1, .m (.one (.t (.v (.int .i64 p1))))), (.tmp 2, .m (.one (.ptr 2 0))), (.tmp 5, .m (.one (.t (.sl (v1.map e3))))), (.tmp 6, .m (.one (.t (.v (.int .i64 v22))))), (.tmp 29, .m (.one (.t (.v (.bool v32))))), (.cell 2 0, .c (.t (.v (.int .i64 p0_0)))), (.cell 2 1, .c (.t (.sl (p0_1.map e3))))]) h (fun _ h => ?_) (fun v32 h => ?_)
      · obtain ⟨v28, hv28, h⟩ := bind_some h
        cases hc11 : decide (v28 < 1) with
        | true =>
          have h := of_true hc11 h
          refine aw_region_draw mixed (.cons (.plain rfl (c_move rfl rfl (by decide) .tmp)) ⟨rfl, trivial⟩ rfl <| .cons (.plain rfl (c_move rfl rfl (by decide) .tmp)) ⟨rfl, trivial⟩ rfl <| .cons (.plain rfl (k_index (f := e3) (i := Try.t3) hv28 rfl rfl rfl (by decide) Try.underlying42 i3 .tmp .tmp)) ⟨rfl, rfl, trivial⟩ rfl <| .cons (.plain rfl (c_loadTree rfl rfl (by decide) Try.isAgg3 .tmp rfl)) ⟨rfl, trivial⟩ rfl <| .cons (.plain rfl (c_lss rfl rfl (by decide) .tmp (.const rfl))) ⟨rfl, trivial⟩ rfl <| .cons (.plain rfl (c_move rfl rfl (by decide) .tmp)) ⟨rfl, trivial⟩ rfl <| .cons (.off (b' := true) rfl rfl rfl rfl (by decide)) ⟨(congrArg mB hc11), trivial⟩ rfl <| .cons (.off (b' := true) rfl rfl rfl rfl (by decide)) ⟨(congrArg mB hc11), trivial⟩ rfl <| .cons (.off (b' := true) rfl rfl rfl rfl (by decide)) ⟨(congrArg mB hc11), trivial⟩ rfl <| .cons (.off (b' := true) rfl rfl rfl rfl (by decide)) ⟨(congrArg mB hc11), trivial⟩ rfl <| .cons (.off (b' := true) rfl rfl rfl rfl (by decide)) ⟨(congrArg mB hc11), trivial⟩ rfl <| .cons (.off (b' := true) rfl rfl rfl rfl (by decide)) ⟨(congrArg mB hc11), trivial⟩ rfl <| .cons (.off (b' := true) rfl rfl rfl rfl (by decide)) ⟨(congrArg mB hc11), trivial⟩ rfl <| .cons (.off (b' := true) rfl rfl rfl rfl (by decide)) ⟨(congrArg mB hc11), trivial⟩ rfl <| .cons (.plain rfl (c_pick (b := true) rfl rfl (by decide) .tmp rfl (.const rfl))) ⟨(congrArg mB hc11), trivial⟩ rfl <| .nil) rfl rfl ?_
          obtain rfl := Option.some.inj h
          show Goes _ _
          exact (Goes.into [(2, 2)] ⟨rfl, rfl, .refl, .refl, .refl, .refl, .refl, .refl, .refl, trivial⟩)
        | false =>
          have h := of_false hc11 h
          obtain ⟨v29, hv29, h⟩ := bind_some h
          obtain ⟨v30, hv30, h⟩ := bind_some h
          obtain ⟨v31, hv31, h⟩ := bind_some h
          refine aw_region_draw mixed (.cons (.plain rfl (c_move rfl rfl (by decide) .tmp)) ⟨rfl, trivial⟩ rfl <| .cons (.plain rfl (c_move rfl rfl (by decide) .tmp)) ⟨rfl, trivial⟩ rfl <| .cons (.plain rfl (k_index (f := e3) (i := Try.t3) hv28 rfl rfl rfl (by decide) Try.underlying42 i3 .tmp .tmp)) ⟨rfl, rfl, trivial⟩ rfl <| .cons (.plain rfl (c_loadTree rfl rfl (by decide) Try.isAgg3 .tmp rfl)) ⟨rfl, trivial⟩ rfl <| .cons (.plain rfl (c_lss rfl rfl (by decide) .tmp (.const rfl))) ⟨rfl, trivial⟩ rfl <| .cons (.plain rfl (c_move rfl rfl (by decide) .tmp)) ⟨rfl, trivial⟩ rfl <| .cons (.on (t := 20) rfl rfl (c_move rfl rfl (by decide) .tmp)) ⟨(congrArg mB hc11), rfl, trivial⟩ rfl <| .cons (.on (t := 20) rfl rfl (c_move rfl rfl (by decide) .tmp)) ⟨(congrArg mB hc11), rfl, trivial⟩ rfl <| .cons (.on (t := 20) rfl rfl (k_sliceH (f := e3) (i := Try.t3) hv29 (fun _ => rfl) rfl rfl (by decide) Try.underlying42 i3 (.tree .tmp) .tmp)) ⟨(congrArg mB hc11), rfl, rfl, trivial⟩ rfl <| .cons (.on (t := 20) rfl rfl (c_move rfl rfl (by decide) .tmp)) ⟨(congrArg mB hc11), rfl, trivial⟩ rfl <| .cons (.on (t := 20) rfl rfl (c_move rfl rfl (by decide) .tmp)) ⟨(congrArg mB hc11), rfl, trivial⟩ rfl <| .cons (.on (t := 20) rfl rfl (k_index (f := e3) (i := Try.t3) hv30 rfl rfl rfl (by decide) Try.underlying42 i3 .tmp .tmp)) ⟨(congrArg mB hc11), rfl, rfl, trivial⟩ rfl <| .cons (.on (t := 20) rfl rfl (c_loadTree rfl rfl (by decide) Try.isAgg3 .tmp rfl)) ⟨(congrArg mB hc11), rfl, trivial⟩ rfl <| .cons (.on (t := 20) rfl rfl (c_call (ins := [.one (.t (.sl (v29.map e3))), .one (.t (.v (.int .i64 v30)))]) (caps := []) rfl rfl rfl (by decide) .clo (ref01_In_calls _ _ _ hv31) (.cons .tmp (.cons .tmp .nil)) rfl rfl)) ⟨(congrArg mB hc11), rfl, rfl, trivial⟩ rfl <| .cons (.plain rfl (c_pick (b := false) rfl rfl (by decide) .tmp rfl .tmp)) ⟨(congrArg mB hc11), rfl, trivial⟩ rfl <| .nil) rfl rfl ?_
          obtain rfl := Option.some.inj h
          show Goes _ _
          exact (Goes.into [(2, 2)] ⟨rfl, rfl, .refl, .refl, .refl, .refl, .refl, .refl, .refl, trivial⟩)
      · show AW _ _ _ _ _
        refine aw_cond .tmp ⟨rfl, trivial⟩ (fun hc12 => ?_) (fun hc12 => ?_)
        · have h := of_true hc12 h
          refine aw_seq ?_
          refine aw_region (.cons (.plain rfl (c_assign rfl rfl (by decide) (.const rfl))) trivial rfl <| .nil) ?_
          show AW _ _ _ _ _
          refine aw_goes (σ' := [(.tmp 4, .m (.one (.t (.v (.bool false)))))]) (Goes.into [] ⟨rfl, rfl, .refl, trivial⟩) ?_
          refine aw_ret ?_
          obtain rfl := Option.some.inj h
          refine ⟨_, rfl, fun h => ?_⟩
          obtain rfl := Option.some.inj h
          exact ⟨.inr rfl, _, [], (.tmp rfl .nil), rfl, rfl, rfl, ⟨rfl, rfl, trivial⟩⟩
        · have h := of_false hc12 h
          refine aw_skip ?_
          show AW _ _ _ _ _
          refine aw_region (.cons (.plain rfl (c_move rfl rfl (by decide) .tmp)) ⟨rfl, trivial⟩ rfl <| .cons (.plain rfl (c_add rfl rfl (by decide) .tmp (.const rfl))) ⟨rfl, trivial⟩ rfl <| .cons (.plain rfl (c_assign rfl rfl (by decide) .tmp)) ⟨rfl, trivial⟩ rfl <| .nil) ?_
          obtain rfl := Option.some.inj h
          exact ⟨_, rfl, (Goes.into [(2, 2)] ⟨rfl, rfl, .refl, .refl, .refl, .refl, .refl, .refl, trivial⟩)⟩
    · have h := of_false hc9 h
      refine aw_exit ?_
      obtain rfl := Option.some.inj h
      exact ⟨_, rfl, (Goes.into [(2, 2)] ⟨rfl, rfl, .refl, .refl, .refl, .refl, trivial⟩)⟩
  · show AW _ _ _ _ _
    refine aw_seq ?_
    refine aw_cut0 (fun v33 : Bool => [(.tmp 4, .m (.one (.t (.v (.bool v33)))))]) h (fun _ h => ?_) (fun v33 h => ?_)
    · cases hc14 : decide ((p0_1.length : Int) ≤ p1) with
      | true =>
        have h := of_true hc14 h
        refine aw_region (.cons (.plain rfl (k_fieldP 42 1 rfl rfl (by decide) Try.underlying58 rfl i42 (by decide) .tmp)) ⟨rfl, trivial⟩ rfl <| .cons (.plain rfl (c_loadCell rfl rfl (by decide) Try.isAgg42 .tmp)) ⟨rfl, rfl, trivial⟩ rfl <| .cons (.plain rfl (k_len (i := Try.t3) (l := p0_1) (f := e3) (fun _ => rfl) (by decide) rfl rfl (by decide) Try.underlying42 (src_tree (f := e3) (fun _ => rfl) (by decide) .tmp))) ⟨rfl, trivial⟩ rfl <| .cons (.plain rfl (c_move rfl rfl (by decide) .tmp)) ⟨rfl, trivial⟩ rfl <| .cons (.plain rfl (c_leq rfl rfl (by decide) .tmp .tmp)) ⟨rfl, rfl, trivial⟩ rfl <| .cons (.plain rfl (c_move rfl rfl (by decide) .tmp)) ⟨rfl, trivial⟩ rfl <| .cons (.off (b' := true) rfl rfl rfl rfl (by decide)) ⟨(congrArg mB hc14), trivial⟩ rfl <| .cons (.off (b' := true) rfl rfl rfl rfl (by decide)) ⟨(congrArg mB hc14), trivial⟩ rfl <| .cons (.off (b' := true) rfl rfl rfl rfl (by decide)) ⟨(congrArg mB hc14), trivial⟩ rfl <| .cons (.off (b' := true) rfl rfl rfl rfl (by decide)) ⟨(congrArg mB hc14), trivial⟩ rfl <| .cons (.plain rfl (c_pick (b := true) rfl rfl (by decide) .tmp rfl (.const rfl))) ⟨(congrArg mB hc14), trivial⟩ rfl <| .cons (.plain rfl (c_assign rfl rfl (by decide) .tmp)) ⟨rfl, trivial⟩ rfl <| .nil) ?_
        obtain rfl := Option.some.inj h
        show Goes _ _
        exact (Goes.into [] ⟨rfl, rfl, .refl, trivial⟩)
      | false =>
        have h := of_false hc14 h
        refine aw_region (.cons (.plain rfl (k_fieldP 42 1 rfl rfl (by decide) Try.underlying58 rfl i42 (by decide) .tmp)) ⟨rfl, trivial⟩ rfl <| .cons (.plain rfl (c_loadCell rfl rfl (by decide) Try.isAgg42 .tmp)) ⟨rfl, rfl, trivial⟩ rfl <| .cons (.plain rfl (k_len (i := Try.t3) (l := p0_1) (f := e3) (fun _ => rfl) (by decide) rfl rfl (by decide) Try.underlying42 (src_tree (f := e3) (fun _ => rfl) (by decide) .tmp))) ⟨rfl, trivial⟩ rfl <| .cons (.plain rfl (c_move rfl rfl (by decide) .tmp)) ⟨rfl, trivial⟩ rfl <| .cons (.plain rfl (c_leq rfl rfl (by decide) .tmp .tmp)) ⟨rfl, rfl, trivial⟩ rfl <| .cons (.plain rfl (c_move rfl rfl (by decide) .tmp)) ⟨rfl, trivial⟩ rfl <| .cons (.on (t := 35) rfl rfl (k_fieldP 42 1 rfl rfl (by decide) Try.underlying58 rfl i42 (by decide) .tmp)) ⟨(congrArg mB hc14), rfl, trivial⟩ rfl <| .cons (.on (t := 35) rfl rfl (c_loadCell rfl rfl (by decide) Try.isAgg42 .tmp)) ⟨(congrArg mB hc14), rfl, rfl, trivial⟩ rfl <| .cons (.on (t := 35) rfl rfl (k_len (i := Try.t3) (l := p0_1) (f := e3) (fun _ => rfl) (by decide) rfl rfl (by decide) Try.underlying42 (src_tree (f := e3) (fun _ => rfl) (by decide) .tmp))) ⟨(congrArg mB hc14), rfl, trivial⟩ rfl <| .cons (.on (t := 35) rfl rfl (c_leq rfl rfl (by decide) .tmp (.const rfl))) ⟨(congrArg mB hc14), rfl, trivial⟩ rfl <| .cons (.plain rfl (c_pick (b := false) rfl rfl (by decide) .tmp rfl .tmp)) ⟨(congrArg mB hc14), rfl, trivial⟩ rfl <| .cons (.plain rfl (c_assign rfl rfl (by decide) .tmp)) ⟨rfl, trivial⟩ rfl <| .nil) ?_
        obtain rfl := Option.some.inj h
        show Goes _ _
        exact (Goes.into [] ⟨rfl, rfl, .refl, trivial⟩)
    · show AW _ _ _ _ _
      refine aw_goes (σ' := [(.tmp 4, .m (.one (.t (.v (.bool v33)))))]) (Goes.into [] ⟨rfl, rfl, .refl, trivial⟩) ?_
      refine aw_ret ?_
      obtain rfl := Option.some.inj h
      exact ⟨.inr rfl, _, [], (.tmp rfl .nil), rfl, rfl, rfl, ⟨rfl, rfl, trivial⟩⟩

def ref15_All_L1 (p0_2 : List (Int × (List (Int)))) (v9 : ((List (Int)) × Int)) : Option (((List (Int)) × Int) ⊕ List (Int)) := bif decide (v9.2 < (p0_2.length : Int)) then (at_ p0_2 v9.2).bind fun v11 => (ref04_All v11.1 v11.2).bind fun v12 => (app_ v9.1 v12).bind fun v13 => some (.inl ((v13, wi64 (v9.2 + 1)))) else some (.inr v9.1)
def ref15_All_L2 (p0_3 : List ((List (Int)))) (v20 : ((List (Int)) × Int)) : Option (((List (Int)) × Int) ⊕ List (Int)) := bif decide (v20.2 < (p0_3.length : Int)) then (at_ p0_3 v20.2).bind fun v22 => (app_ v20.1 v22).bind fun v23 => some (.inl ((v23, wi64 (v20.2 + 1)))) else some (.inr v20.1)
def ref15_All (p0_0 : List (Int × Int)) (p0_1 : Int) (p0_2 : List (Int × (List (Int)))) (p0_3 : List ((List (Int)))) (p0_4 : Int) : Option (List (Int)) := (loopO (ref15_All_L1 p0_2) fuel ((([] : List (Int)), 0))).bind fun v10 => (loopO (ref15_All_L2 p0_3) fuel ((v10, 0))).bind fun v21 => some v21
theorem ref15_All_calls (p0_0 : List (Int × Int)) (p0_1 : Int) (p0_2 : List (Int × (List (Int)))) (p0_3 : List ((List (Int)))) (p0_4 : Int) (r : List (Int)) (h : ref15_All p0_0 p0_1 p0_2 p0_3 p0_4 = some r) : ACalls Try.prog 50 [.agg [.t (.sl (p0_0.map e57)), .t (.v (.int .i64 p0_1)), .t (.sl (p0_2.map e51)), .t (.sl (p0_3.map e42)), .t (.v (.int .u64 p0_4))]] [] (.one (.t (.sl (r.map e3)))) [] := by
  unfold ref15_All at h
  refine acalls_of_AW Try.func50 rfl Try.call50 (by decide) (show 1 ≤ 36 by decide) rfl rfl ?_
  refine aw_seq ?_
  refine aw_region (.cons (.plain rfl (k_boxN rfl rfl (by decide) .tmp rfl)) ⟨rfl, trivial⟩ rfl <| .cons (.plain rfl (c_assign rfl rfl (by decide) .nilT)) trivial rfl <| .nil) ?_
  show AW _ _ _ _ _
  refine aw_seq ?_
  refine aw_region (.cons (.plain rfl (c_assign rfl rfl (by decide) (.const rfl))) trivial rfl <| .nil) ?_
  show AW _ _ _ _ _
  refine aw_seq ?_
  refine aw_seq ?_
  refine aw_region (.cons (.plain rfl (c_assign rfl rfl (by decide) (.const rfl))) trivial rfl <| .nil) ?_
  show AW _ _ _ _ _
  refine aw_loop0 (fun v9 : ((List (Int)) × Int) => [(.tmp 1, .m (.one (.ptr 1 0))), (.tmp 3, .m (.one (.row 500002))), (.tmp 4, .m (.one (.t (.v (.int .i64 v9.2))))), (.cell 1 0, .c (.t (.sl (p0_0.map e57)))), (.cell 1 1, .c (.t (.v (.int .i64 p0_1)))), (.cell 1 2, .c (.t (.sl (p0_2.map e51)))), (.cell 1 3, .c (.t (.sl (p0_3.map e42)))), (.cell 1 4, .c (.t (.v (.int .u64 p0_4)))), (.row 500002, .r 3 1 (v9.1.map e3))]) (fun v10 : List (Int) => [(.tmp 1, .m (.one (.ptr 1 0))), (.tmp 3, .m (.one (.row 500004))), (.cell 1 0, .c (.t (.sl (p0_0.map e57)))), (.cell 1 1, .c (.t (.v (.int .i64 p0_1)))), (.cell 1 2, .c (.t (.sl (p0_2.map e51)))), (.cell 1 3, .c (.t (.sl (p0_3.map e42)))), (.cell 1 4, .c (.t (.v (.int .u64 p0_4)))), (.row 500004, .r 3 1 (v10.map e3))]) h (Goes.trans (Goes.nilRow (t := 3) (n := 500011) 3 1 (by decide) rfl (by decide) rfl) (Goes.into [(1, 1), (500002, 500011)] ⟨rfl, rfl, .refl, .refl, .refl, .refl, .refl, .refl, .refl, .refl, .refl, trivial⟩)) (fun v9 _ h => ?_) (fun v10 h => ?_)
  · unfold ref15_All_L1 at h
    refine aw_seq ?_
    refine aw_seq ?_
    refine aw_region (.cons (.plain rfl (c_move rfl rfl (by decide) .tmp)) ⟨rfl, trivial⟩ rfl <| .cons (.plain rfl (k_fieldP 23 2 rfl rfl (by decide) Try.underlying27 rfl i23 (by decide) .tmp)) ⟨rfl, trivial⟩ rfl <| .cons (.plain rfl (c_loadCell rfl rfl (by decide) Try.isAgg23 .tmp)) ⟨rfl, rfl, trivial⟩ rfl <| .cons (.plain rfl (k_len (i := Try.t58) (l := p0_2) (f := e51) (fun _ => rfl) (by decide) rfl rfl (by decide) Try.underlying23 (src_tree (f := e51) (fun _ => rfl) (by decide) .tmp))) ⟨rfl, trivial⟩ rfl <| .cons (.plain rfl (c_lss rfl rfl (by decide) .tmp .tmp)) ⟨rfl, rfl, trivial⟩ rfl <| .nil) ?_
    show AW _ _ _ _ _
    refine aw_cond .tmp ⟨rfl, trivial⟩ (fun hc3 => ?_) (fun hc3 => ?_)
    · have h := of_true hc3 h
      refine aw_skip ?_
      show AW _ _ _ _ _
      refine aw_seq ?_
      refine aw_block ?_
      obtain ⟨v11, hv11, h⟩ := bind_some h
      obtain ⟨v12, hv12, h⟩ := bind_some h
      obtain ⟨v13, hv13, h⟩ := bind_some h
      refine aw_region (.cons (.plain rfl (c_move rfl rfl (by decide) .tmp)) ⟨rfl, trivial⟩ rfl <| .cons (.plain rfl (k_fieldP 23 2 rfl rfl (by decide) Try.underlying27 rfl i23 (by decide) .tmp)) ⟨rfl, trivial⟩ rfl <| .cons (.plain rfl (c_loadCell rfl rfl (by decide) Try.isAgg23 .tmp)) ⟨rfl, rfl, trivial⟩ rfl <| .cons (.plain rfl (c_move rfl rfl (by decide) .tmp)) ⟨rfl, trivial⟩ rfl <| .cons (.plain rfl (k_index (f := e51) (i := Try.t58) hv11 rfl rfl rfl (by decide) Try.underlying23 i58 .tmp .tmp)) ⟨rfl, rfl, trivial⟩ rfl <| .cons (.plain rfl (c_loadTrees (cs := [.v (.int .i64 v11.1), .sl (v11.2.map e3)]) rfl rfl (by decide) Try.isAgg58 i58 rfl (show 0 + 2 ≤ 2 by decide) .tmp)) ⟨rfl, trivial⟩ rfl <| .cons (.plain rfl (c_call (ins := [.agg [.t (.v (.int .i64 v11.1)), .t (.sl (v11.2.map e3))]]) (caps := []) rfl rfl rfl (by decide) .clo (ref04_All_calls _ _ _ hv12) (.cons .tmp .nil) rfl rfl)) ⟨rfl, trivial⟩ rfl <| .cons (.plain rfl (k_appendRow (f := e3) hv13 (by decide) (by decide) rfl rfl (by decide) Try.underlying42 i3 rfl rfl rfl rfl (by decide) .tmp (src_tree (f := e3) (fun _ => rfl) (by decide) .tmp))) ⟨rfl, rfl, rfl, trivial⟩ rfl <| .cons (.plain rfl (c_assign rfl rfl (by decide) .tmp)) ⟨rfl, trivial⟩ rfl <| .nil) ?_
      show AW _ _ _ _ _
      refine aw_region (.cons (.plain rfl (c_move rfl rfl (by decide) .tmp)) ⟨rfl, trivial⟩ rfl <| .cons (.plain rfl (c_add rfl rfl (by decide) .tmp (.const rfl))) ⟨rfl, trivial⟩ rfl <| .cons (.plain rfl (c_assign rfl rfl (by decide) .tmp)) ⟨rfl, trivial⟩ rfl <| .nil) ?_
      obtain rfl := Option.some.inj h
      exact ⟨_, rfl, (Goes.into [(1, 1), (500002, 20)] ⟨rfl, rfl, .refl, .refl, .refl, .refl, .refl, .refl, .refl, .refl, .refl, trivial⟩)⟩
    · have h := of_false hc3 h
      refine aw_exit ?_
      obtain rfl := Option.some.inj h
      exact ⟨rfl, _, rfl, (Goes.into [(1, 1), (500004, 500002)] ⟨rfl, rfl, .refl, .refl, .refl, .refl, .refl, .refl, .refl, .refl, trivial⟩)⟩
  · show AW _ _ _ _ _
    refine aw_seq ?_
    refine aw_seq ?_
    refine aw_region (.cons (.plain rfl (c_assign rfl rfl (by decide) (.const rfl))) trivial rfl <| .nil) ?_
    show AW _ _ _ _ _
    refine aw_loop0 (fun v20 : ((List (Int)) × Int) => [(.tmp 1, .m (.one (.ptr 1 0))), (.tmp 3, .m (.one (.row 500007))), (.tmp 5, .m (.one (.t (.v (.int .i64 v20.2))))), (.cell 1 0, .c (.t (.sl (p0_0.map e57)))), (.cell 1 1, .c (.t (.v (.int .i64 p0_1)))), (.cell 1 2, .c (.t (.sl (p0_2.map e51)))), (.cell 1 3, .c (.t (.sl (p0_3.map e42)))), (.cell 1 4, .c (.t (.v (.int .u64 p0_4)))), (.row 500007, .r 3 1 (v20.1.map e3))]) (fun v21 : List (Int) => [(.tmp 3, .m (.one (.row 500009))), (.row 500009, .r 3 1 (v21.map e3))]) h (Goes.into [(1, 1), (500007, 500004)] ⟨rfl, rfl, .refl, .refl, .refl, .refl, .refl, .refl, .refl, .refl, .refl, trivial⟩) (fun v20 _ h => ?_) (fun v21 h => ?_)
    · unfold ref15_All_L2 at h
      refine aw_seq ?_
      refine aw_seq ?_
      refine aw_region (.cons (.plain rfl (c_move rfl rfl (by decide) .tmp)) ⟨rfl, trivial⟩ rfl <| .cons (.plain rfl (k_fieldP 24 3 rfl rfl (by decide) Try.underlying27 rfl i24 (by decide) .tmp)) ⟨rfl, trivial⟩ rfl <| .cons (.plain rfl (c_loadCell rfl rfl (by decide) Try.isAgg24 .tmp)) ⟨rfl, rfl, trivial⟩ rfl <| .cons (.plain rfl (k_len (i := Try.t42) (l := p0_3) (f := e42) (fun _ => rfl) (by decide) rfl rfl (by decide) Try.underlying24 (src_tree (f := e42) (fun _ => rfl) (by decide) .tmp))) ⟨rfl, trivial⟩ rfl <| .cons (.plain rfl (c_lss rfl rfl (by decide) .tmp .tmp)) ⟨rfl, rfl, trivial⟩ rfl <| .nil) ?_
      show AW _ _ _ _ _
      refine aw_cond .tmp ⟨rfl, trivial⟩ (fun hc6 => ?_) (fun hc6 => ?_)
      · have h := of_true hc6 h
        refine aw_skip ?_
        show AW _ _ _ _ _
        refine aw_seq ?_
        refine aw_block ?_
        obtain ⟨v22, hv22, h⟩ := bind_some h
        obtain ⟨v23, hv23, h⟩ := bind_some h
        refine aw_region (.cons (.plain rfl (c_move rfl rfl (by decide) .tmp)) ⟨rfl, trivial⟩ rfl <| .cons (.plain rfl (k_fieldP 24 3 rfl rfl (by decide) Try.underlying27 rfl i24 (by decide) .tmp)) ⟨rfl, trivial⟩ rfl <| .cons (.plain rfl (c_loadCell rfl rfl (by decide) Try.isAgg24 .tmp)) ⟨rfl, rfl, trivial⟩ rfl <| .cons (.plain rfl (c_move rfl rfl (by decide) .tmp)) ⟨rfl, trivial⟩ rfl <| .cons (.plain rfl (k_index (f := e42) (i := Try.t42) hv22 rfl rfl rfl (by decide) Try.underlying24 i42 .tmp .tmp)) ⟨rfl, rfl, trivial⟩ rfl <| .cons (.plain rfl (c_loadTree rfl rfl (by decide) Try.isAgg42 .tmp rfl)) ⟨rfl, trivial⟩ rfl <| .cons (.plain rfl (k_appendRow (f := e3) hv23 (by decide) (by decide) rfl rfl (by decide) Try.underlying42 i3 rfl rfl rfl rfl (by decide) .tmp (src_tree (f := e3) (fun _ => rfl) (by decide) .tmp))) ⟨rfl, rfl, rfl, trivial⟩ rfl <| .cons (.plain rfl (c_assign rfl rfl (by decide) .tmp)) ⟨rfl, trivial⟩ rfl <| .nil) ?_
        show AW _ _ _ _ _
        refine aw_region (.cons (.plain rfl (c_move rfl rfl (by decide) .tmp)) ⟨rfl, trivial⟩ rfl <| .cons (.plain rfl (c_add rfl rfl (by decide) .tmp (.const rfl))) ⟨rfl, trivial⟩ rfl <| .cons (.plain rfl (c_assign rfl rfl (by decide) .tmp)) ⟨rfl, trivial⟩ rfl <| .nil) ?_
        obtain rfl := Option.some.inj h
        exact ⟨_, rfl, (Goes.into [(1, 1), (500007, 34)] ⟨rfl, rfl, .refl, .refl, .refl, .refl, .refl, .refl, .refl, .refl, .refl, trivial⟩)⟩
      · have h := of_false hc6 h
        refine aw_exit ?_
        obtain rfl := Option.some.inj h
        exact ⟨rfl, _, rfl, (Goes.into [(500009, 500007)] ⟨rfl, rfl, .refl, .refl, trivial⟩)⟩
    · show AW _ _ _ _ _
      refine aw_seq ?_
      refine aw_region (.cons (.plain rfl (c_move rfl rfl (by decide) .tmp)) ⟨rfl, trivial⟩ rfl <| .cons (.plain rfl (c_assign rfl rfl (by decide) .tmp)) ⟨rfl, trivial⟩ rfl <| .nil) ?_
      show AW _ _ _ _ _
      refine aw_goes (σ' := [(.tmp 2, .m (.one (.t (.sl (v21.map e3)))))]) (Goes.trans (Goes.freezeRow (n := 500009) rfl) (Goes.into [] ⟨rfl, rfl, .refl, trivial⟩)) ?_
      refine aw_ret ?_
      obtain rfl := Option.some.inj h
      exact ⟨.inr rfl, _, [], (.tmp rfl .nil), rfl, rfl, rfl, ⟨rfl, rfl, trivial⟩⟩

def ref15_May_L1 (p0_0 : List (Int × Int)) (p0_1 : Int) (p0_2 : List (Int × (List (Int)))) (p0_3 : List ((List (Int)))) (p0_4 : Int) (v4 : List (Int)) (v35 : Int) : Option (Int ⊕ (Unit ⊕ Bool)) := bif decide (v35 < (v4.length : Int)) then ((at_ p0_2 v35).bind fun v42 => (ref04_May v42.1 v42.2 p0_1).bind fun v43 => bif !v43 then some true else (at_ p0_2 v35).bind fun v44 => (ref04_All v44.1 v44.2).bind fun v45 => bif decide (0 < (v45.length : Int)) then (ref15_On p0_0 p0_1 p0_2 p0_3 p0_4 v35).bind fun v46 => some (!v46) else some false : Option Bool).bind fun v47 => bif v47 then some (.inr (.inr false)) else some (.inl (wi64 (v35 + 1))) else some (.inr (.inl (())))
def ref15_May_L2 (v48 : List (Int)) (v69 : Int) : Option (Int ⊕ (Unit ⊕ Bool)) := bif decide (v69 < (v48.length : Int)) then ((at_ v48 v69).bind fun v75 => bif decide (v75 < 1) then some true else (take_ v48 v69).bind fun v76 => (at_ v48 v69).bind fun v77 => (ref01_In v76 v77).bind fun v78 => some v78 : Option Bool).bind fun v79 => bif v79 then some (.inr (.inr false)) else some (.inl (wi64 (v69 + 1))) else some (.inr (.inl (())))
end Go.PM
