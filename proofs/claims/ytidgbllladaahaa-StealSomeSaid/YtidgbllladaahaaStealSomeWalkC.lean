/- The walks of StealSome, part 3: each function of the code as a plain function, and that a call of it computes that. Written by a program of mine. -/
import Derived.Test.YtidgbllladaahaaStealSomeWalkB
set_option linter.all false
open Go Go.Proofs
namespace Go.PM
set_option maxRecDepth 20000
set_option maxHeartbeats 4000000
def ref15_May (p0_0 : List (Int × Int)) (p0_1 : Int) (p0_2 : List (Int × (List (Int)))) (p0_3 : List ((List (Int)))) (p0_4 : Int) : Option Bool := ((ref01_Check p0_0).bind fun v2 => bif !decide (v2 = 0) then some true else bif decide (p0_1 < 2) then some true else some (decide (16 < p0_1)) : Option Bool).bind fun v3 => bif v3 then some false else (ref01_Of p0_0 3).bind fun v4 => (ref06_All p0_4).bind fun v5 => (bif !decide ((p0_2.length : Int) = (v4.length : Int)) then some true else (ref01_Of p0_0 1).bind fun v8 => bif !decide ((p0_3.length : Int) = (v8.length : Int)) then some true else bif decide ((v5.length : Int) = 0) then some true else (at_ v5 (wi64 ((v5.length : Int) - 1))).bind fun v9 => some (decide ((v4.length : Int) ≤ v9)) : Option Bool).bind fun v10 => bif v10 then some false else (loopO (ref15_May_L1 p0_0 p0_1 p0_2 p0_3 p0_4 v4) fuel 0).bind fun s => s.elim (fun v36 => (ref15_All p0_0 p0_1 p0_2 p0_3 p0_4).bind fun v48 => (loopO (ref15_May_L2 v48) fuel 0).bind fun s => s.elim (fun v70 => some true) (fun j : Bool => some j)) (fun j : Bool => some j)
theorem ref15_May_calls (p0_0 : List (Int × Int)) (p0_1 : Int) (p0_2 : List (Int × (List (Int)))) (p0_3 : List ((List (Int)))) (p0_4 : Int) (r : Bool) (h : ref15_May p0_0 p0_1 p0_2 p0_3 p0_4 = some r) : ACalls Try.prog 24 [.agg [.t (.sl (p0_0.map e57)), .t (.v (.int .i64 p0_1)), .t (.sl (p0_2.map e51)), .t (.sl (p0_3.map e42)), .t (.v (.int .u64 p0_4))]] [] (.one (.t (.v (.bool r)))) [] := by
  unfold ref15_May at h
  refine acalls_of_AW Try.func24 rfl Try.call24 (by decide) (show 1 ≤ 112 by decide) rfl rfl ?_
  refine aw_seq ?_
  refine aw_region (.cons (.plain rfl (k_boxN rfl rfl (by decide) .tmp rfl)) ⟨rfl, trivial⟩ rfl <| .cons (.plain rfl (c_assign rfl rfl (by decide) (.const rfl))) trivial rfl <| .nil) ?_
  show AW _ _ _ _ _
  refine aw_seq ?_
  refine aw_seq ?_
  refine aw_cut0 (fun v3 : Bool => [(.tmp 1, .m (.one (.ptr 1 0))), (.tmp 21, .m (.one (.t (.v (.bool v3))))), (.cell 1 0, .c (.t (.sl (p0_0.map e57)))), (.cell 1 1, .c (.t (.v (.int .i64 p0_1)))), (.cell 1 2, .c (.t (.sl (p0_2.map e51)))), (.cell 1 3, .c (.t (.sl (p0_3.map e42)))), (.cell 1 4, .c (.t (.v (.int .u64 p0_4))))]) h (fun _ h => ?_) (fun v3 h => ?_)
  · obtain ⟨v2, hv2, h⟩ := bind_some h
    cases hc3 : !decide (v2 = 0) with
    | true =>
      have h := of_true hc3 h
      refine aw_region (.cons (.plain rfl (k_fieldP 22 0 rfl rfl (by decide) Try.underlying27 rfl i22 (by decide) .tmp)) ⟨rfl, trivial⟩ rfl <| .cons (.plain rfl (c_loadCell rfl rfl (by decide) Try.isAgg22 .tmp)) ⟨rfl, rfl, trivial⟩ rfl <| .cons (.plain rfl (c_call (ins := [.one (.t (.sl (p0_0.map e57)))]) (caps := []) rfl rfl rfl (by decide) .clo (ref01_Check_calls _ _ hv2) (.cons .tmp .nil) rfl rfl)) ⟨rfl, trivial⟩ rfl <| .cons (.plain rfl (c_neq rfl rfl (by decide) .tmp (.const rfl))) ⟨rfl, trivial⟩ rfl <| .cons (.plain rfl (c_move rfl rfl (by decide) .tmp)) ⟨rfl, trivial⟩ rfl <| .cons (.off (b' := true) rfl rfl rfl rfl (by decide)) ⟨(congrArg mB hc3), trivial⟩ rfl <| .cons (.off (b' := true) rfl rfl rfl rfl (by decide)) ⟨(congrArg mB hc3), trivial⟩ rfl <| .cons (.off (b' := true) rfl rfl rfl rfl (by decide)) ⟨(congrArg mB hc3), trivial⟩ rfl <| .cons (.plain rfl (c_pick (b := true) rfl rfl (by decide) .tmp rfl (.const rfl))) ⟨(congrArg mB hc3), trivial⟩ rfl <| .cons (.plain rfl (c_move rfl rfl (by decide) .tmp)) ⟨rfl, trivial⟩ rfl <| .cons (.off (b' := true) rfl rfl rfl rfl (by decide)) ⟨rfl, trivial⟩ rfl <| .cons (.off (b' := true) rfl rfl rfl rfl (by decide)) ⟨rfl, trivial⟩ rfl <| .cons (.off (b' := true) rfl rfl rfl rfl (by decide)) ⟨rfl, trivial⟩ rfl <| .cons (.plain rfl (c_pick (b := true) rfl rfl (by decide) .tmp rfl (.const rfl))) ⟨rfl, trivial⟩ rfl <| .nil) ?_
      obtain rfl := Option.some.inj h
      show Goes _ _
      exact (Goes.into [(1, 1)] ⟨rfl, rfl, .refl, .refl, .refl, .refl, .refl, .refl, .refl, trivial⟩)
    | false =>
      have h := of_false hc3 h
      cases hc4 : decide (p0_1 < 2) with
      | true =>
        have h := of_true hc4 h
        refine aw_region (.cons (.plain rfl (k_fieldP 22 0 rfl rfl (by decide) Try.underlying27 rfl i22 (by decide) .tmp)) ⟨rfl, trivial⟩ rfl <| .cons (.plain rfl (c_loadCell rfl rfl (by decide) Try.isAgg22 .tmp)) ⟨rfl, rfl, trivial⟩ rfl <| .cons (.plain rfl (c_call (ins := [.one (.t (.sl (p0_0.map e57)))]) (caps := []) rfl rfl rfl (by decide) .clo (ref01_Check_calls _ _ hv2) (.cons .tmp .nil) rfl rfl)) ⟨rfl, trivial⟩ rfl <| .cons (.plain rfl (c_neq rfl rfl (by decide) .tmp (.const rfl))) ⟨rfl, trivial⟩ rfl <| .cons (.plain rfl (c_move rfl rfl (by decide) .tmp)) ⟨rfl, trivial⟩ rfl <| .cons (.on (t := 12) rfl rfl (k_fieldP 3 1 rfl rfl (by decide) Try.underlying27 rfl i3 (by decide) .tmp)) ⟨(congrArg mB hc3), rfl, trivial⟩ rfl <| .cons (.on (t := 12) rfl rfl (c_loadCell rfl rfl (by decide) Try.isAgg3 .tmp)) ⟨(congrArg mB hc3), rfl, rfl, trivial⟩ rfl <| .cons (.on (t := 12) rfl rfl (c_lss rfl rfl (by decide) .tmp (.const rfl))) ⟨(congrArg mB hc3), rfl, trivial⟩ rfl <| .cons (.plain rfl (c_pick (b := false) rfl rfl (by decide) .tmp rfl .tmp)) ⟨(congrArg mB hc3), rfl, trivial⟩ rfl <| .cons (.plain rfl (c_move rfl rfl (by decide) .tmp)) ⟨rfl, trivial⟩ rfl <| .cons (.off (b' := true) rfl rfl rfl rfl (by decide)) ⟨(congrArg mB hc4), trivial⟩ rfl <| .cons (.off (b' := true) rfl rfl rfl rfl (by decide)) ⟨(congrArg mB hc4), trivial⟩ rfl <| .cons (.off (b' := true) rfl rfl rfl rfl (by decide)) ⟨(congrArg mB hc4), trivial⟩ rfl <| .cons (.plain rfl (c_pick (b := true) rfl rfl (by decide) .tmp rfl (.const rfl))) ⟨(congrArg mB hc4), trivial⟩ rfl <| .nil) ?_
        obtain rfl := Option.some.inj h
        show Goes _ _
        exact (Goes.into [(1, 1)] ⟨rfl, rfl, .refl, .refl, .refl, .refl, .refl, .refl, .refl, trivial⟩)
      | false =>
        have h := of_false hc4 h
        refine aw_region (.cons (.plain rfl (k_fieldP 22 0 rfl rfl (by decide) Try.underlying27 rfl i22 (by decide) .tmp)) ⟨rfl, trivial⟩ rfl <| .cons (.plain rfl (c_loadCell rfl rfl (by decide) Try.isAgg22 .tmp)) ⟨rfl, rfl, trivial⟩ rfl <| .cons (.plain rfl (c_call (ins := [.one (.t (.sl (p0_0.map e57)))]) (caps := []) rfl rfl rfl (by decide) .clo (ref01_Check_calls _ _ hv2) (.cons .tmp .nil) rfl rfl)) ⟨rfl, trivial⟩ rfl <| .cons (.plain rfl (c_neq rfl rfl (by decide) .tmp (.const rfl))) ⟨rfl, trivial⟩ rfl <| .cons (.plain rfl (c_move rfl rfl (by decide) .tmp)) ⟨rfl, trivial⟩ rfl <| .cons (.on (t := 12) rfl rfl (k_fieldP 3 1 rfl rfl (by decide) Try.underlying27 rfl i3 (by decide) .tmp)) ⟨(congrArg mB hc3), rfl, trivial⟩ rfl <| .cons (.on (t := 12) rfl rfl (c_loadCell rfl rfl (by decide) Try.isAgg3 .tmp)) ⟨(congrArg mB hc3), rfl, rfl, trivial⟩ rfl <| .cons (.on (t := 12) rfl rfl (c_lss rfl rfl (by decide) .tmp (.const rfl))) ⟨(congrArg mB hc3), rfl, trivial⟩ rfl <| .cons (.plain rfl (c_pick (b := false) rfl rfl (by decide) .tmp rfl .tmp)) ⟨(congrArg mB hc3), rfl, trivial⟩ rfl <| .cons (.plain rfl (c_move rfl rfl (by decide) .tmp)) ⟨rfl, trivial⟩ rfl <| .cons (.on (t := 17) rfl rfl (k_fieldP 3 1 rfl rfl (by decide) Try.underlying27 rfl i3 (by decide) .tmp)) ⟨(congrArg mB hc4), rfl, trivial⟩ rfl <| .cons (.on (t := 17) rfl rfl (c_loadCell rfl rfl (by decide) Try.isAgg3 .tmp)) ⟨(congrArg mB hc4), rfl, rfl, trivial⟩ rfl <| .cons (.on (t := 17) rfl rfl (c_gtr rfl rfl (by decide) .tmp (.const rfl))) ⟨(congrArg mB hc4), rfl, trivial⟩ rfl <| .cons (.plain rfl (c_pick (b := false) rfl rfl (by decide) .tmp rfl .tmp)) ⟨(congrArg mB hc4), rfl, trivial⟩ rfl <| .nil) ?_
        obtain rfl := Option.some.inj h
        show Goes _ _
        exact (Goes.into [(1, 1)] ⟨rfl, rfl, .refl, .refl, .refl, .refl, .refl, .refl, .refl, trivial⟩)
  · show AW _ _ _ _ _
    refine aw_cond .tmp ⟨rfl, trivial⟩ (fun hc5 => ?_) (fun hc5 => ?_)
    · have h := of_true hc5 h
      refine aw_seq ?_
      refine aw_region (.cons (.plain rfl (c_assign rfl rfl (by decide) (.const rfl))) trivial rfl <| .nil) ?_
      show AW _ _ _ _ _
      refine aw_goes (σ' := [(.tmp 2, .m (.one (.t (.v (.bool false)))))]) (Goes.into [] ⟨rfl, rfl, .refl, trivial⟩) ?_
      refine aw_ret ?_
      obtain rfl := Option.some.inj h
      exact ⟨.inr rfl, _, [], (.tmp rfl .nil), rfl, rfl, rfl, ⟨rfl, rfl, trivial⟩⟩
    · have h := of_false hc5 h
      refine aw_skip ?_
      show AW _ _ _ _ _
      refine aw_seq ?_
      obtain ⟨v4, hv4, h⟩ := bind_some h
      refine aw_region (.cons (.plain rfl (k_fieldP 22 0 rfl rfl (by decide) Try.underlying27 rfl i22 (by decide) .tmp)) ⟨rfl, trivial⟩ rfl <| .cons (.plain rfl (c_loadCell rfl rfl (by decide) Try.isAgg22 .tmp)) ⟨rfl, rfl, trivial⟩ rfl <| .cons (.plain rfl (c_call (ins := [.one (.t (.sl (p0_0.map e57))), .one (.t (.v (.int .i64 3)))]) (caps := []) rfl rfl rfl (by decide) .clo (ref01_Of_calls _ _ _ hv4) (.cons .tmp (.cons (.const rfl) .nil)) rfl rfl)) ⟨rfl, trivial⟩ rfl <| .cons (.plain rfl (k_len (i := Try.t3) (l := v4) (f := e3) (fun _ => rfl) (by decide) rfl rfl (by decide) Try.underlying42 (src_tree (f := e3) (fun _ => rfl) (by decide) .tmp))) ⟨rfl, trivial⟩ rfl <| .cons (.plain rfl (c_assign rfl rfl (by decide) .tmp)) ⟨rfl, trivial⟩ rfl <| .nil) ?_
      show AW _ _ _ _ _
      refine aw_seq ?_
      obtain ⟨v5, hv5, h⟩ := bind_some h
      refine aw_region (.cons (.plain rfl (k_fieldP 25 4 rfl rfl (by decide) Try.underlying27 rfl i25 (by decide) .tmp)) ⟨rfl, trivial⟩ rfl <| .cons (.plain rfl (c_loadCell rfl rfl (by decide) Try.isAgg25 .tmp)) ⟨rfl, rfl, trivial⟩ rfl <| .cons (.plain rfl (c_call (ins := [.one (.t (.v (.int .u64 p0_4)))]) (caps := []) rfl rfl rfl (by decide) .clo (ref06_All_calls _ _ hv5) (.cons .tmp .nil) rfl rfl)) ⟨rfl, trivial⟩ rfl <| .cons (.plain rfl (c_assign rfl rfl (by decide) .tmp)) ⟨rfl, trivial⟩ rfl <| .nil) ?_
      show AW _ _ _ _ _
      refine aw_seq ?_
      refine aw_seq ?_
      refine aw_cut0 (fun v10 : Bool => [(.tmp 1, .m (.one (.ptr 1 0))), (.tmp 3, .m (.one (.t (.v (.int .i64 ((v4.length : Int))))))), (.tmp 58, .m (.one (.t (.v (.bool v10))))), (.cell 1 0, .c (.t (.sl (p0_0.map e57)))), (.cell 1 1, .c (.t (.v (.int .i64 p0_1)))), (.cell 1 2, .c (.t (.sl (p0_2.map e51)))), (.cell 1 3, .c (.t (.sl (p0_3.map e42)))), (.cell 1 4, .c (.t (.v (.int .u64 p0_4))))]) h (fun _ h => ?_) (fun v10 h => ?_)
      · cases hc9 : !decide ((p0_2.length : Int) = (v4.length : Int)) with
        | true =>
          have h := of_true hc9 h
          refine aw_region_draw mixed (.cons (.plain rfl (k_fieldP 23 2 rfl rfl (by decide) Try.underlying27 rfl i23 (by decide) .tmp)) ⟨rfl, trivial⟩ rfl <| .cons (.plain rfl (c_loadCell rfl rfl (by decide) Try.isAgg23 .tmp)) ⟨rfl, rfl, trivial⟩ rfl <| .cons (.plain rfl (k_len (i := Try.t58) (l := p0_2) (f := e51) (fun _ => rfl) (by decide) rfl rfl (by decide) Try.underlying23 (src_tree (f := e51) (fun _ => rfl) (by decide) .tmp))) ⟨rfl, trivial⟩ rfl <| .cons (.plain rfl (c_move rfl rfl (by decide) .tmp)) ⟨rfl, trivial⟩ rfl <| .cons (.plain rfl (c_neq rfl rfl (by decide) .tmp .tmp)) ⟨rfl, rfl, trivial⟩ rfl <| .cons (.plain rfl (c_move rfl rfl (by decide) .tmp)) ⟨rfl, trivial⟩ rfl <| .cons (.off (b' := true) rfl rfl rfl rfl (by decide)) ⟨(congrArg mB hc9), trivial⟩ rfl <| .cons (.off (b' := true) rfl rfl rfl rfl (by decide)) ⟨(congrArg mB hc9), trivial⟩ rfl <| .cons (.off (b' := true) rfl rfl rfl rfl (by decide)) ⟨(congrArg mB hc9), trivial⟩ rfl <| .cons (.off (b' := true) rfl rfl rfl rfl (by decide)) ⟨(congrArg mB hc9), trivial⟩ rfl <| .cons (.off (b' := true) rfl rfl rfl rfl (by decide)) ⟨(congrArg mB hc9), trivial⟩ rfl <| .cons (.off (b' := true) rfl rfl rfl rfl (by decide)) ⟨(congrArg mB hc9), trivial⟩ rfl <| .cons (.off (b' := true) rfl rfl rfl rfl (by decide)) ⟨(congrArg mB hc9), trivial⟩ rfl <| .cons (.off (b' := true) rfl rfl rfl rfl (by decide)) ⟨(congrArg mB hc9), trivial⟩ rfl <| .cons (.plain rfl (c_pick (b := true) rfl rfl (by decide) .tmp rfl (.const rfl))) ⟨(congrArg mB hc9), trivial⟩ rfl <| .cons (.plain rfl (c_move rfl rfl (by decide) .tmp)) ⟨rfl, trivial⟩ rfl <| .cons (.off (b' := true) rfl rfl rfl rfl (by decide)) ⟨rfl, trivial⟩ rfl <| .cons (.off (b' := true) rfl rfl rfl rfl (by decide)) ⟨rfl, trivial⟩ rfl <| .cons (.off (b' := true) rfl rfl rfl rfl (by decide)) ⟨rfl, trivial⟩ rfl <| .cons (.plain rfl (c_pick (b := true) rfl rfl (by decide) .tmp rfl (.const rfl))) ⟨rfl, trivial⟩ rfl <| .cons (.plain rfl (c_move rfl rfl (by decide) .tmp)) ⟨rfl, trivial⟩ rfl <| .cons (.off (b' := true) rfl rfl rfl rfl (by decide)) ⟨rfl, trivial⟩ rfl <| .cons (.off (b' := true) rfl rfl rfl rfl (by decide)) ⟨rfl, trivial⟩ rfl <| .cons (.off (b' := true) rfl rfl rfl rfl (by decide)) ⟨rfl, trivial⟩ rfl <| .cons (.off (b' := true) rfl rfl rfl rfl (by decide)) ⟨rfl, trivial⟩ rfl <| .cons (.off (b' := true) rfl rfl rfl rfl (by decide)) ⟨rfl, trivial⟩ rfl <| .cons (.off (b' := true) rfl rfl rfl rfl (by decide)) ⟨rfl, trivial⟩ rfl <| .cons (.off (b' := true) rfl rfl rfl rfl (by decide)) ⟨rfl, trivial⟩ rfl <| .cons (.off (b' := true) rfl rfl rfl rfl (by decide)) ⟨rfl, trivial⟩ rfl <| .cons (.plain rfl (c_pick (b := true) rfl rfl (by decide) .tmp rfl (.const rfl))) ⟨rfl, trivial⟩ rfl <| .nil) rfl rfl ?_
          obtain rfl := Option.some.inj h
          show Goes _ _
          exact (Goes.into [(1, 1)] ⟨rfl, rfl, .refl, .refl, .refl, .refl, .refl, .refl, .refl, .refl, trivial⟩)
        | false =>
          have h := of_false hc9 h
          obtain ⟨v8, hv8, h⟩ := bind_some h
          cases hc10 : !decide ((p0_3.length : Int) = (v8.length : Int)) with
          | true =>
            have h := of_true hc10 h
            refine aw_region_draw mixed (.cons (.plain rfl (k_fieldP 23 2 rfl rfl (by decide) Try.underlying27 rfl i23 (by decide) .tmp)) ⟨rfl, trivial⟩ rfl <| .cons (.plain rfl (c_loadCell rfl rfl (by decide) Try.isAgg23 .tmp)) ⟨rfl, rfl, trivial⟩ rfl <| .cons (.plain rfl (k_len (i := Try.t58) (l := p0_2) (f := e51) (fun _ => rfl) (by decide) rfl rfl (by decide) Try.underlying23 (src_tree (f := e51) (fun _ => rfl) (by decide) .tmp))) ⟨rfl, trivial⟩ rfl <| .cons (.plain rfl (c_move rfl rfl (by decide) .tmp)) ⟨rfl, trivial⟩ rfl <| .cons (.plain rfl (c_neq rfl rfl (by decide) .tmp .tmp)) ⟨rfl, rfl, trivial⟩ rfl <| .cons (.plain rfl (c_move rfl rfl (by decide) .tmp)) ⟨rfl, trivial⟩ rfl <| .cons (.on (t := 34) rfl rfl (k_fieldP 24 3 rfl rfl (by decide) Try.underlying27 rfl i24 (by decide) .tmp)) ⟨(congrArg mB hc9), rfl, trivial⟩ rfl <| .cons (.on (t := 34) rfl rfl (c_loadCell rfl rfl (by decide) Try.isAgg24 .tmp)) ⟨(congrArg mB hc9), rfl, rfl, trivial⟩ rfl <| .cons (.on (t := 34) rfl rfl (k_len (i := Try.t42) (l := p0_3) (f := e42) (fun _ => rfl) (by decide) rfl rfl (by decide) Try.underlying24 (src_tree (f := e42) (fun _ => rfl) (by decide) .tmp))) ⟨(congrArg mB hc9), rfl, trivial⟩ rfl <| .cons (.on (t := 34) rfl rfl (k_fieldP 22 0 rfl rfl (by decide) Try.underlying27 rfl i22 (by decide) .tmp)) ⟨(congrArg mB hc9), rfl, trivial⟩ rfl <| .cons (.on (t := 34) rfl rfl (c_loadCell rfl rfl (by decide) Try.isAgg22 .tmp)) ⟨(congrArg mB hc9), rfl, rfl, trivial⟩ rfl <| .cons (.on (t := 34) rfl rfl (c_call (ins := [.one (.t (.sl (p0_0.map e57))), .one (.t (.v (.int .i64 1)))]) (caps := []) rfl rfl rfl (by decide) .clo (ref01_Of_calls _ _ _ hv8) (.cons .tmp (.cons (.const rfl) .nil)) rfl rfl)) ⟨(congrArg mB hc9), rfl, trivial⟩ rfl <| .cons (.on (t := 34) rfl rfl (k_len (i := Try.t3) (l := v8) (f := e3) (fun _ => rfl) (by decide) rfl rfl (by decide) Try.underlying42 (src_tree (f := e3) (fun _ => rfl) (by decide) .tmp))) ⟨(congrArg mB hc9), rfl, trivial⟩ rfl <| .cons (.on (t := 34) rfl rfl (c_neq rfl rfl (by decide) .tmp .tmp)) ⟨(congrArg mB hc9), rfl, rfl, trivial⟩ rfl <| .cons (.plain rfl (c_pick (b := false) rfl rfl (by decide) .tmp rfl .tmp)) ⟨(congrArg mB hc9), rfl, trivial⟩ rfl <| .cons (.plain rfl (c_move rfl rfl (by decide) .tmp)) ⟨rfl, trivial⟩ rfl <| .cons (.off (b' := true) rfl rfl rfl rfl (by decide)) ⟨(congrArg mB hc10), trivial⟩ rfl <| .cons (.off (b' := true) rfl rfl rfl rfl (by decide)) ⟨(congrArg mB hc10), trivial⟩ rfl <| .cons (.off (b' := true) rfl rfl rfl rfl (by decide)) ⟨(congrArg mB hc10), trivial⟩ rfl <| .cons (.plain rfl (c_pick (b := true) rfl rfl (by decide) .tmp rfl (.const rfl))) ⟨(congrArg mB hc10), trivial⟩ rfl <| .cons (.plain rfl (c_move rfl rfl (by decide) .tmp)) ⟨rfl, trivial⟩ rfl <| .cons (.off (b' := true) rfl rfl rfl rfl (by decide)) ⟨rfl, trivial⟩ rfl <| .cons (.off (b' := true) rfl rfl rfl rfl (by decide)) ⟨rfl, trivial⟩ rfl <| .cons (.off (b' := true) rfl rfl rfl rfl (by decide)) ⟨rfl, trivial⟩ rfl <| .cons (.off (b' := true) rfl rfl rfl rfl (by decide)) ⟨rfl, trivial⟩ rfl <| .cons (.off (b' := true) rfl rfl rfl rfl (by decide)) ⟨rfl, trivial⟩ rfl <| .cons (.off (b' := true) rfl rfl rfl rfl (by decide)) ⟨rfl, trivial⟩ rfl <| .cons (.off (b' := true) rfl rfl rfl rfl (by decide)) ⟨rfl, trivial⟩ rfl <| .cons (.off (b' := true) rfl rfl rfl rfl (by decide)) ⟨rfl, trivial⟩ rfl <| .cons (.plain rfl (c_pick (b := true) rfl rfl (by decide) .tmp rfl (.const rfl))) ⟨rfl, trivial⟩ rfl <| .nil) rfl rfl ?_
            obtain rfl := Option.some.inj h
            show Goes _ _
            exact (Goes.into [(1, 1)] ⟨rfl, rfl, .refl, .refl, .refl, .refl, .refl, .refl, .refl, .refl, trivial⟩)
          | false =>
            have h := of_false hc10 h
            cases hc11 : decide ((v5.length : Int) = 0) with
            | true =>
              have h := of_true hc11 h
              refine aw_region_draw mixed (.cons (.plain rfl (k_fieldP 23 2 rfl rfl (by decide) Try.underlying27 rfl i23 (by decide) .tmp)) ⟨rfl, trivial⟩ rfl <| .cons (.plain rfl (c_loadCell rfl rfl (by decide) Try.isAgg23 .tmp)) ⟨rfl, rfl, trivial⟩ rfl <| .cons (.plain rfl (k_len (i := Try.t58) (l := p0_2) (f := e51) (fun _ => rfl) (by decide) rfl rfl (by decide) Try.underlying23 (src_tree (f := e51) (fun _ => rfl) (by decide) .tmp))) ⟨rfl, trivial⟩ rfl <| .cons (.plain rfl (c_move rfl rfl (by decide) .tmp)) ⟨rfl, trivial⟩ rfl <| .cons (.plain rfl (c_neq rfl rfl (by decide) .tmp .tmp)) ⟨rfl, rfl, trivial⟩ rfl <| .cons (.plain rfl (c_move rfl rfl (by decide) .tmp)) ⟨rfl, trivial⟩ rfl <| .cons (.on (t := 34) rfl rfl (k_fieldP 24 3 rfl rfl (by decide) Try.underlying27 rfl i24 (by decide) .tmp)) ⟨(congrArg mB hc9), rfl, trivial⟩ rfl <| .cons (.on (t := 34) rfl rfl (c_loadCell rfl rfl (by decide) Try.isAgg24 .tmp)) ⟨(congrArg mB hc9), rfl, rfl, trivial⟩ rfl <| .cons (.on (t := 34) rfl rfl (k_len (i := Try.t42) (l := p0_3) (f := e42) (fun _ => rfl) (by decide) rfl rfl (by decide) Try.underlying24 (src_tree (f := e42) (fun _ => rfl) (by decide) .tmp))) ⟨(congrArg mB hc9), rfl, trivial⟩ rfl <| .cons (.on (t := 34) rfl rfl (k_fieldP 22 0 rfl rfl (by decide) Try.underlying27 rfl i22 (by decide) .tmp)) ⟨(congrArg mB hc9), rfl, trivial⟩ rfl <| .cons (.on (t := 34) rfl rfl (c_loadCell rfl rfl (by decide) Try.isAgg22 .tmp)) ⟨(congrArg mB hc9), rfl, rfl, trivial⟩ rfl <| .cons (.on (t := 34) rfl rfl (c_call (ins := [.one (.t (.sl (p0_0.map e57))), .one (.t (.v (.int .i64 1)))]) (caps := []) rfl rfl rfl (by decide) .clo (ref01_Of_calls _ _ _ hv8) (.cons .tmp (.cons (.const rfl) .nil)) rfl rfl)) ⟨(congrArg mB hc9), rfl, trivial⟩ rfl <| .cons (.on (t := 34) rfl rfl (k_len (i := Try.t3) (l := v8) (f := e3) (fun _ => rfl) (by decide) rfl rfl (by decide) Try.underlying42 (src_tree (f := e3) (fun _ => rfl) (by decide) .tmp))) ⟨(congrArg mB hc9), rfl, trivial⟩ rfl <| .cons (.on (t := 34) rfl rfl (c_neq rfl rfl (by decide) .tmp .tmp)) ⟨(congrArg mB hc9), rfl, rfl, trivial⟩ rfl <| .cons (.plain rfl (c_pick (b := false) rfl rfl (by decide) .tmp rfl .tmp)) ⟨(congrArg mB hc9), rfl, trivial⟩ rfl <| .cons (.plain rfl (c_move rfl rfl (by decide) .tmp)) ⟨rfl, trivial⟩ rfl <| .cons (.on (t := 44) rfl rfl (c_move rfl rfl (by decide) .tmp)) ⟨(congrArg mB hc10), rfl, trivial⟩ rfl <| .cons (.on (t := 44) rfl rfl (k_len (i := Try.t3) (l := v5) (f := e3) (fun _ => rfl) (by decide) rfl rfl (by decide) Try.underlying42 (src_tree (f := e3) (fun _ => rfl) (by decide) .tmp))) ⟨(congrArg mB hc10), rfl, trivial⟩ rfl <| .cons (.on (t := 44) rfl rfl (c_eql rfl rfl (by decide) .tmp (.const rfl))) ⟨(congrArg mB hc10), rfl, trivial⟩ rfl <| .cons (.plain rfl (c_pick (b := false) rfl rfl (by decide) .tmp rfl .tmp)) ⟨(congrArg mB hc10), rfl, trivial⟩ rfl <| .cons (.plain rfl (c_move rfl rfl (by decide) .tmp)) ⟨rfl, trivial⟩ rfl <| .cons (.off (b' := true) rfl rfl rfl rfl (by decide)) ⟨(congrArg mB hc11), trivial⟩ rfl <| .cons (.off (b' := true) rfl rfl rfl rfl (by decide)) ⟨(congrArg mB hc11), trivial⟩ rfl <| .cons (.off (b' := true) rfl rfl rfl rfl (by decide)) ⟨(congrArg mB hc11), trivial⟩ rfl <| .cons (.off (b' := true) rfl rfl rfl rfl (by decide)) ⟨(congrArg mB hc11), trivial⟩ rfl <| .cons (.off (b' := true) rfl rfl rfl rfl (by decide)) ⟨(congrArg mB hc11), trivial⟩ rfl <| .cons (.off (b' := true) rfl rfl rfl rfl (by decide)) ⟨(congrArg mB hc11), trivial⟩ rfl <| .cons (.off (b' := true) rfl rfl rfl rfl (by decide)) ⟨(congrArg mB hc11), trivial⟩ rfl <| .cons (.off (b' := true) rfl rfl rfl rfl (by decide)) ⟨(congrArg mB hc11), trivial⟩ rfl <| .cons (.plain rfl (c_pick (b := true) rfl rfl (by decide) .tmp rfl (.const rfl))) ⟨(congrArg mB hc11), trivial⟩ rfl <| .nil) rfl rfl ?_
              obtain rfl := Option.some.inj h
              show Goes _ _
              exact (Goes.into [(1, 1)] ⟨rfl, rfl, .refl, .refl, .refl, .refl, .refl, .refl, .refl, .refl, trivial⟩)
            | false =>
              have h := of_false hc11 h
              obtain ⟨v9, hv9, h⟩ := bind_some h
              refine aw_region_draw mixed (.cons (.plain rfl (k_fieldP 23 2 rfl rfl (by decide) Try.underlying27 rfl i23 (by decide) .tmp)) ⟨rfl, trivial⟩ rfl <| .cons (.plain rfl (c_loadCell rfl rfl (by decide) Try.isAgg23 .tmp)) ⟨rfl, rfl, trivial⟩ rfl <| .cons (.plain rfl (k_len (i := Try.t58) (l := p0_2) (f := e51) (fun _ => rfl) (by decide) rfl rfl (by decide) Try.underlying23 (src_tree (f := e51) (fun _ => rfl) (by decide) .tmp))) ⟨rfl, trivial⟩ rfl <| .cons (.plain rfl (c_move rfl rfl (by decide) .tmp)) ⟨rfl, trivial⟩ rfl <| .cons (.plain rfl (c_neq rfl rfl (by decide) .tmp .tmp)) ⟨rfl, rfl, trivial⟩ rfl <| .cons (.plain rfl (c_move rfl rfl (by decide) .tmp)) ⟨rfl, trivial⟩ rfl <| .cons (.on (t := 34) rfl rfl (k_fieldP 24 3 rfl rfl (by decide) Try.underlying27 rfl i24 (by decide) .tmp)) ⟨(congrArg mB hc9), rfl, trivial⟩ rfl <| .cons (.on (t := 34) rfl rfl (c_loadCell rfl rfl (by decide) Try.isAgg24 .tmp)) ⟨(congrArg mB hc9), rfl, rfl, trivial⟩ rfl <| .cons (.on (t := 34) rfl rfl (k_len (i := Try.t42) (l := p0_3) (f := e42) (fun _ => rfl) (by decide) rfl rfl (by decide) Try.underlying24 (src_tree (f := e42) (fun _ => rfl) (by decide) .tmp))) ⟨(congrArg mB hc9), rfl, trivial⟩ rfl <| .cons (.on (t := 34) rfl rfl (k_fieldP 22 0 rfl rfl (by decide) Try.underlying27 rfl i22 (by decide) .tmp)) ⟨(congrArg mB hc9), rfl, trivial⟩ rfl <| .cons (.on (t := 34) rfl rfl (c_loadCell rfl rfl (by decide) Try.isAgg22 .tmp)) ⟨(congrArg mB hc9), rfl, rfl, trivial⟩ rfl <| .cons (.on (t := 34) rfl rfl (c_call (ins := [.one (.t (.sl (p0_0.map e57))), .one (.t (.v (.int .i64 1)))]) (caps := []) rfl rfl rfl (by decide) .clo (ref01_Of_calls _ _ _ hv8) (.cons .tmp (.cons (.const rfl) .nil)) rfl rfl)) ⟨(congrArg mB hc9), rfl, trivial⟩ rfl <| .cons (.on (t := 34) rfl rfl (k_len (i := Try.t3) (l := v8) (f := e3) (fun _ => rfl) (by decide) rfl rfl (by decide) Try.underlying42 (src_tree (f := e3) (fun _ => rfl) (by decide) .tmp))) ⟨(congrArg mB hc9), rfl, trivial⟩ rfl <| .cons (.on (t := 34) rfl rfl (c_neq rfl rfl (by decide) .tmp .tmp)) ⟨(congrArg mB hc9), rfl, rfl, trivial⟩ rfl <| .cons (.plain rfl (c_pick (b := false) rfl rfl (by decide) .tmp rfl .tmp)) ⟨(congrArg mB hc9), rfl, trivial⟩ rfl <| .cons (.plain rfl (c_move rfl rfl (by decide) .tmp)) ⟨rfl, trivial⟩ rfl <| .cons (.on (t := 44) rfl rfl (c_move rfl rfl (by decide) .tmp)) ⟨(congrArg mB hc10), rfl, trivial⟩ rfl <| .cons (.on (t := 44) rfl rfl (k_len (i := Try.t3) (l := v5) (f := e3) (fun _ => rfl) (by decide) rfl rfl (by decide) Try.underlying42 (src_tree (f := e3) (fun _ => rfl) (by decide) .tmp))) ⟨(congrArg mB hc10), rfl, trivial⟩ rfl <| .cons (.on (t := 44) rfl rfl (c_eql rfl rfl (by decide) .tmp (.const rfl))) ⟨(congrArg mB hc10), rfl, trivial⟩ rfl <| .cons (.plain rfl (c_pick (b := false) rfl rfl (by decide) .tmp rfl .tmp)) ⟨(congrArg mB hc10), rfl, trivial⟩ rfl <| .cons (.plain rfl (c_move rfl rfl (by decide) .tmp)) ⟨rfl, trivial⟩ rfl <| .cons (.on (t := 49) rfl rfl (c_move rfl rfl (by decide) .tmp)) ⟨(congrArg mB hc11), rfl, trivial⟩ rfl <| .cons (.on (t := 49) rfl rfl (c_move rfl rfl (by decide) .tmp)) ⟨(congrArg mB hc11), rfl, trivial⟩ rfl <| .cons (.on (t := 49) rfl rfl (k_len (i := Try.t3) (l := v5) (f := e3) (fun _ => rfl) (by decide) rfl rfl (by decide) Try.underlying42 (src_tree (f := e3) (fun _ => rfl) (by decide) .tmp))) ⟨(congrArg mB hc11), rfl, trivial⟩ rfl <| .cons (.on (t := 49) rfl rfl (c_sub rfl rfl (by decide) .tmp (.const rfl))) ⟨(congrArg mB hc11), rfl, trivial⟩ rfl <| .cons (.on (t := 49) rfl rfl (k_index (f := e3) (i := Try.t3) hv9 rfl rfl rfl (by decide) Try.underlying42 i3 .tmp .tmp)) ⟨(congrArg mB hc11), rfl, rfl, trivial⟩ rfl <| .cons (.on (t := 49) rfl rfl (c_loadTree rfl rfl (by decide) Try.isAgg3 .tmp rfl)) ⟨(congrArg mB hc11), rfl, trivial⟩ rfl <| .cons (.on (t := 49) rfl rfl (c_move rfl rfl (by decide) .tmp)) ⟨(congrArg mB hc11), rfl, trivial⟩ rfl <| .cons (.on (t := 49) rfl rfl (c_geq rfl rfl (by decide) .tmp .tmp)) ⟨(congrArg mB hc11), rfl, rfl, trivial⟩ rfl <| .cons (.plain rfl (c_pick (b := false) rfl rfl (by decide) .tmp rfl .tmp)) ⟨(congrArg mB hc11), rfl, trivial⟩ rfl <| .nil) rfl rfl ?_
              obtain rfl := Option.some.inj h
              show Goes _ _
              exact (Goes.into [(1, 1)] ⟨rfl, rfl, .refl, .refl, .refl, .refl, .refl, .refl, .refl, .refl, trivial⟩)
      · show AW _ _ _ _ _
        refine aw_cond .tmp ⟨rfl, trivial⟩ (fun hc12 => ?_) (fun hc12 => ?_)
        · have h := of_true hc12 h
          refine aw_seq ?_
          refine aw_region (.cons (.plain rfl (c_assign rfl rfl (by decide) (.const rfl))) trivial rfl <| .nil) ?_
          show AW _ _ _ _ _
          refine aw_goes (σ' := [(.tmp 2, .m (.one (.t (.v (.bool false)))))]) (Goes.into [] ⟨rfl, rfl, .refl, trivial⟩) ?_
          refine aw_ret ?_
          obtain rfl := Option.some.inj h
          exact ⟨.inr rfl, _, [], (.tmp rfl .nil), rfl, rfl, rfl, ⟨rfl, rfl, trivial⟩⟩
        · have h := of_false hc12 h
          refine aw_skip ?_
          show AW _ _ _ _ _
          refine aw_seq ?_
          refine aw_seq ?_
          refine aw_region (.cons (.plain rfl (c_assign rfl rfl (by decide) (.const rfl))) trivial rfl <| .nil) ?_
          show AW _ _ _ _ _
          refine aw_loopJ (fun v35 : Int => [(.tmp 1, .m (.one (.ptr 1 0))), (.tmp 3, .m (.one (.t (.v (.int .i64 ((v4.length : Int))))))), (.tmp 5, .m (.one (.t (.v (.int .i64 v35))))), (.cell 1 0, .c (.t (.sl (p0_0.map e57)))), (.cell 1 1, .c (.t (.v (.int .i64 p0_1)))), (.cell 1 2, .c (.t (.sl (p0_2.map e51)))), (.cell 1 3, .c (.t (.sl (p0_3.map e42)))), (.cell 1 4, .c (.t (.v (.int .u64 p0_4))))]) (fun v36 : Unit => [(.tmp 1, .m (.one (.ptr 1 0))), (.cell 1 0, .c (.t (.sl (p0_0.map e57)))), (.cell 1 1, .c (.t (.v (.int .i64 p0_1)))), (.cell 1 2, .c (.t (.sl (p0_2.map e51)))), (.cell 1 3, .c (.t (.sl (p0_3.map e42)))), (.cell 1 4, .c (.t (.v (.int .u64 p0_4))))]) h (Goes.into [(1, 1)] ⟨rfl, rfl, .refl, .refl, .refl, .refl, .refl, .refl, .refl, .refl, trivial⟩) (fun v35 _ h => ?_) (fun v36 h => ?_)
          · unfold ref15_May_L1 at h
            refine aw_seq ?_
            refine aw_seq ?_
            refine aw_region (.cons (.plain rfl (c_move rfl rfl (by decide) .tmp)) ⟨rfl, trivial⟩ rfl <| .cons (.plain rfl (c_move rfl rfl (by decide) .tmp)) ⟨rfl, trivial⟩ rfl <| .cons (.plain rfl (c_lss rfl rfl (by decide) .tmp .tmp)) ⟨rfl, rfl, trivial⟩ rfl <| .nil) ?_
            show AW _ _ _ _ _
            refine aw_cond .tmp ⟨rfl, trivial⟩ (fun hc25 => ?_) (fun hc25 => ?_)
            · have h := of_true hc25 h
              refine aw_skip ?_
              show AW _ _ _ _ _
              refine aw_seq ?_
              refine aw_block ?_
              refine aw_seq ?_
              refine aw_cut0 (fun v47 : Bool => [(.tmp 1, .m (.one (.ptr 1 0))), (.tmp 3, .m (.one (.t (.v (.int .i64 ((v4.length : Int))))))), (.tmp 5, .m (.one (.t (.v (.int .i64 v35))))), (.tmp 88, .m (.one (.t (.v (.bool v47))))), (.cell 1 0, .c (.t (.sl (p0_0.map e57)))), (.cell 1 1, .c (.t (.v (.int .i64 p0_1)))), (.cell 1 2, .c (.t (.sl (p0_2.map e51)))), (.cell 1 3, .c (.t (.sl (p0_3.map e42)))), (.cell 1 4, .c (.t (.v (.int .u64 p0_4))))]) h (fun _ h => ?_) (fun v47 h => ?_)
              · obtain ⟨v42, hv42, h⟩ := bind_some h
                obtain ⟨v43, hv43, h⟩ := bind_some h
                cases hc28 : !v43 with
                | true =>
                  have h := of_true hc28 h
                  refine aw_region_draw mixed (.cons (.plain rfl (k_fieldP 23 2 rfl rfl (by decide) Try.underlying27 rfl i23 (by decide) .tmp)) ⟨rfl, trivial⟩ rfl <| .cons (.plain rfl (c_loadCell rfl rfl (by decide) Try.isAgg23 .tmp)) ⟨rfl, rfl, trivial⟩ rfl <| .cons (.plain rfl (c_move rfl rfl (by decide) .tmp)) ⟨rfl, trivial⟩ rfl <| .cons (.plain rfl (k_index (f := e51) (i := Try.t58) hv42 rfl rfl rfl (by decide) Try.underlying23 i58 .tmp .tmp)) ⟨rfl, rfl, trivial⟩ rfl <| .cons (.plain rfl (c_loadTrees (cs := [.v (.int .i64 v42.1), .sl (v42.2.map e3)]) rfl rfl (by decide) Try.isAgg58 i58 rfl (show 0 + 2 ≤ 2 by decide) .tmp)) ⟨rfl, trivial⟩ rfl <| .cons (.plain rfl (k_fieldP 3 1 rfl rfl (by decide) Try.underlying27 rfl i3 (by decide) .tmp)) ⟨rfl, trivial⟩ rfl <| .cons (.plain rfl (c_loadCell rfl rfl (by decide) Try.isAgg3 .tmp)) ⟨rfl, rfl, trivial⟩ rfl <| .cons (.plain rfl (c_call (ins := [.agg [.t (.v (.int .i64 v42.1)), .t (.sl (v42.2.map e3))], .one (.t (.v (.int .i64 p0_1)))]) (caps := []) rfl rfl rfl (by decide) .clo (ref04_May_calls _ _ _ _ hv43) (.cons .tmp (.cons .tmp .nil)) rfl rfl)) ⟨rfl, rfl, trivial⟩ rfl <| .cons (.plain rfl (c_not rfl rfl (by decide) .tmp)) ⟨rfl, trivial⟩ rfl <| .cons (.plain rfl (c_move rfl rfl (by decide) .tmp)) ⟨rfl, trivial⟩ rfl <| .cons (.off (b' := true) rfl rfl rfl rfl (by decide)) ⟨(congrArg mB hc28), trivial⟩ rfl <| .cons (.off (b' := true) rfl rfl rfl rfl (by decide)) ⟨(congrArg mB hc28), trivial⟩ rfl <| .cons (.off (b' := true) rfl rfl rfl rfl (by decide)) ⟨(congrArg mB hc28), trivial⟩ rfl <| .cons (.off (b' := true) rfl rfl rfl rfl (by decide)) ⟨(congrArg mB hc28), trivial⟩ rfl <| .cons (.off (b' := true) rfl rfl rfl rfl (by decide)) ⟨(congrArg mB hc28), trivial⟩ rfl <| .cons (.off (b' := true) rfl rfl rfl rfl (by decide)) ⟨(congrArg mB hc28), trivial⟩ rfl <| .cons (.off (b' := true) rfl rfl rfl rfl (by decide)) ⟨(congrArg mB hc28), trivial⟩ rfl <| .cons (.off (b' := true) rfl rfl rfl rfl (by decide)) ⟨(congrArg mB hc28), trivial⟩ rfl <| .cons (.off (b' := true) rfl rfl rfl rfl (by decide)) ⟨(congrArg mB hc28), trivial⟩ rfl <| .cons (.offU rfl rfl rfl (by decide)) ⟨rfl, trivial⟩ rfl <| .cons (.offU rfl rfl rfl (by decide)) ⟨rfl, trivial⟩ rfl <| .cons (.offU rfl rfl rfl (by decide)) ⟨rfl, trivial⟩ rfl <| .cons (.offU rfl rfl rfl (by decide)) ⟨rfl, trivial⟩ rfl <| .cons (.off (b' := true) rfl rfl rfl rfl (by decide)) ⟨(congrArg mB hc28), trivial⟩ rfl <| .cons (.plain rfl (c_pick (b := true) rfl rfl (by decide) .tmp rfl (.const rfl))) ⟨(congrArg mB hc28), trivial⟩ rfl <| .nil) rfl rfl ?_
                  obtain rfl := Option.some.inj h
                  show Goes _ _
                  exact (Goes.into [(1, 1)] ⟨rfl, rfl, .refl, .refl, .refl, .refl, .refl, .refl, .refl, .refl, .refl, trivial⟩)
                | false =>
                  have h := of_false hc28 h
                  obtain ⟨v44, hv44, h⟩ := bind_some h
                  obtain ⟨v45, hv45, h⟩ := bind_some h
                  cases hc29 : decide (0 < (v45.length : Int)) with
                  | true =>
                    have h := of_true hc29 h
                    obtain ⟨v46, hv46, h⟩ := bind_some h
                    refine aw_region_draw mixed (.cons (.plain rfl (k_fieldP 23 2 rfl rfl (by decide) Try.underlying27 rfl i23 (by decide) .tmp)) ⟨rfl, trivial⟩ rfl <| .cons (.plain rfl (c_loadCell rfl rfl (by decide) Try.isAgg23 .tmp)) ⟨rfl, rfl, trivial⟩ rfl <| .cons (.plain rfl (c_move rfl rfl (by decide) .tmp)) ⟨rfl, trivial⟩ rfl <| .cons (.plain rfl (k_index (f := e51) (i := Try.t58) hv42 rfl rfl rfl (by decide) Try.underlying23 i58 .tmp .tmp)) ⟨rfl, rfl, trivial⟩ rfl <| .cons (.plain rfl (c_loadTrees (cs := [.v (.int .i64 v42.1), .sl (v42.2.map e3)]) rfl rfl (by decide) Try.isAgg58 i58 rfl (show 0 + 2 ≤ 2 by decide) .tmp)) ⟨rfl, trivial⟩ rfl <| .cons (.plain rfl (k_fieldP 3 1 rfl rfl (by decide) Try.underlying27 rfl i3 (by decide) .tmp)) ⟨rfl, trivial⟩ rfl <| .cons (.plain rfl (c_loadCell rfl rfl (by decide) Try.isAgg3 .tmp)) ⟨rfl, rfl, trivial⟩ rfl <| .cons (.plain rfl (c_call (ins := [.agg [.t (.v (.int .i64 v42.1)), .t (.sl (v42.2.map e3))], .one (.t (.v (.int .i64 p0_1)))]) (caps := []) rfl rfl rfl (by decide) .clo (ref04_May_calls _ _ _ _ hv43) (.cons .tmp (.cons .tmp .nil)) rfl rfl)) ⟨rfl, rfl, trivial⟩ rfl <| .cons (.plain rfl (c_not rfl rfl (by decide) .tmp)) ⟨rfl, trivial⟩ rfl <| .cons (.plain rfl (c_move rfl rfl (by decide) .tmp)) ⟨rfl, trivial⟩ rfl <| .cons (.on (t := 73) rfl rfl (k_fieldP 23 2 rfl rfl (by decide) Try.underlying27 rfl i23 (by decide) .tmp)) ⟨(congrArg mB hc28), rfl, trivial⟩ rfl <| .cons (.on (t := 73) rfl rfl (c_loadCell rfl rfl (by decide) Try.isAgg23 .tmp)) ⟨(congrArg mB hc28), rfl, rfl, trivial⟩ rfl <| .cons (.on (t := 73) rfl rfl (c_move rfl rfl (by decide) .tmp)) ⟨(congrArg mB hc28), rfl, trivial⟩ rfl <| .cons (.on (t := 73) rfl rfl (k_index (f := e51) (i := Try.t58) hv44 rfl rfl rfl (by decide) Try.underlying23 i58 .tmp .tmp)) ⟨(congrArg mB hc28), rfl, rfl, trivial⟩ rfl <| .cons (.on (t := 73) rfl rfl (c_loadTrees (cs := [.v (.int .i64 v44.1), .sl (v44.2.map e3)]) rfl rfl (by decide) Try.isAgg58 i58 rfl (show 0 + 2 ≤ 2 by decide) .tmp)) ⟨(congrArg mB hc28), rfl, trivial⟩ rfl <| .cons (.on (t := 73) rfl rfl (c_call (ins := [.agg [.t (.v (.int .i64 v44.1)), .t (.sl (v44.2.map e3))]]) (caps := []) rfl rfl rfl (by decide) .clo (ref04_All_calls _ _ _ hv45) (.cons .tmp .nil) rfl rfl)) ⟨(congrArg mB hc28), rfl, trivial⟩ rfl <| .cons (.on (t := 73) rfl rfl (k_len (i := Try.t3) (l := v45) (f := e3) (fun _ => rfl) (by decide) rfl rfl (by decide) Try.underlying42 (src_tree (f := e3) (fun _ => rfl) (by decide) .tmp))) ⟨(congrArg mB hc28), rfl, trivial⟩ rfl <| .cons (.on (t := 73) rfl rfl (c_gtr rfl rfl (by decide) .tmp (.const rfl))) ⟨(congrArg mB hc28), rfl, trivial⟩ rfl <| .cons (.on (t := 73) rfl rfl (c_move rfl rfl (by decide) .tmp)) ⟨(congrArg mB hc28), rfl, trivial⟩ rfl <| .cons (.on (t := 82) rfl rfl (c_loadBox (cs := [.t (.sl (p0_0.map e57)), .t (.v (.int .i64 p0_1)), .t (.sl (p0_2.map e51)), .t (.sl (p0_3.map e42)), .t (.v (.int .u64 p0_4))]) rfl rfl (by decide) Try.isAgg27 i27 rfl .tmp)) ⟨(congrArg mB hc29), rfl, rfl, rfl, rfl, rfl, rfl, trivial⟩ rfl <| .cons (.on (t := 82) rfl rfl (c_move rfl rfl (by decide) .tmp)) ⟨(congrArg mB hc29), rfl, trivial⟩ rfl <| .cons (.on (t := 82) rfl rfl (c_call (ins := [.agg [.t (.sl (p0_0.map e57)), .t (.v (.int .i64 p0_1)), .t (.sl (p0_2.map e51)), .t (.sl (p0_3.map e42)), .t (.v (.int .u64 p0_4))], .one (.t (.v (.int .i64 v35)))]) (caps := []) rfl rfl rfl (by decide) .clo (ref15_On_calls _ _ _ _ _ _ _ hv46) (.cons .tmp (.cons .tmp .nil)) rfl rfl)) ⟨(congrArg mB hc29), rfl, rfl, trivial⟩ rfl <| .cons (.on (t := 82) rfl rfl (c_not rfl rfl (by decide) .tmp)) ⟨(congrArg mB hc29), rfl, trivial⟩ rfl <| .cons (.on (t := 73) rfl rfl (c_pick (b := true) rfl rfl (by decide) .tmp rfl .tmp)) ⟨(congrArg mB hc28), (congrArg mB hc29), rfl, trivial⟩ rfl <| .cons (.plain rfl (c_pick (b := false) rfl rfl (by decide) .tmp rfl .tmp)) ⟨(congrArg mB hc28), rfl, trivial⟩ rfl <| .nil) rfl rfl ?_
                    obtain rfl := Option.some.inj h
                    show Goes _ _
                    exact (Goes.into [(1, 1)] ⟨rfl, rfl, .refl, .refl, .refl, .refl, .refl, .refl, .refl, .refl, .refl, trivial⟩)
                  | false =>
                    have h := of_false hc29 h
                    refine aw_region_draw mixed (.cons (.plain rfl (k_fieldP 23 2 rfl rfl (by decide) Try.underlying27 rfl i23 (by decide) .tmp)) ⟨rfl, trivial⟩ rfl <| .cons (.plain rfl (c_loadCell rfl rfl (by decide) Try.isAgg23 .tmp)) ⟨rfl, rfl, trivial⟩ rfl <| .cons (.plain rfl (c_move rfl rfl (by decide) .tmp)) ⟨rfl, trivial⟩ rfl <| .cons (.plain rfl (k_index (f := e51) (i := Try.t58) hv42 rfl rfl rfl (by decide) Try.underlying23 i58 .tmp .tmp)) ⟨rfl, rfl, trivial⟩ rfl <| .cons (.plain rfl (c_loadTrees (cs := [.v (.int .i64 v42.1), .sl (v42.2.map e3)]) rfl rfl (by decide) Try.isAgg58 i58 rfl (show 0 + 2 ≤ 2 by decide) .tmp)) ⟨rfl, trivial⟩ rfl <| .cons (.plain rfl (k_fieldP 3 1 rfl rfl (by decide) Try.underlying27 rfl i3 (by decide) .tmp)) ⟨rfl, trivial⟩ rfl <| .cons (.plain rfl (c_loadCell rfl rfl (by decide) Try.isAgg3 .tmp)) ⟨rfl, rfl, trivial⟩ rfl <| .cons (.plain rfl (c_call (ins := [.agg [.t (.v (.int .i64 v42.1)), .t (.sl (v42.2.map e3))], .one (.t (.v (.int .i64 p0_1)))]) (caps := []) rfl rfl rfl (by decide) .clo (ref04_May_calls _ _ _ _ hv43) (.cons .tmp (.cons .tmp .nil)) rfl rfl)) ⟨rfl, rfl, trivial⟩ rfl <| .cons (.plain rfl (c_not rfl rfl (by decide) .tmp)) ⟨rfl, trivial⟩ rfl <| .cons (.plain rfl (c_move rfl rfl (by decide) .tmp)) ⟨rfl, trivial⟩ rfl <| .cons (.on (t := 73) rfl rfl (k_fieldP 23 2 rfl rfl (by decide) Try.underlying27 rfl i23 (by decide) .tmp)) ⟨(congrArg mB hc28), rfl, trivial⟩ rfl <| .cons (.on (t := 73) rfl rfl (c_loadCell rfl rfl (by decide) Try.isAgg23 .tmp)) ⟨(congrArg mB hc28), rfl, rfl, trivial⟩ rfl <| .cons (.on (t := 73) rfl rfl (c_move rfl rfl (by decide) .tmp)) ⟨(congrArg mB hc28), rfl, trivial⟩ rfl <| .cons (.on (t := 73) rfl rfl (k_index (f := e51) (i := Try.t58) hv44 rfl rfl rfl (by decide) Try.underlying23 i58 .tmp .tmp)) ⟨(congrArg mB hc28), rfl, rfl, trivial⟩ rfl <| .cons (.on (t := 73) rfl rfl (c_loadTrees (cs := [.v (.int .i64 v44.1), .sl (v44.2.map e3)]) rfl rfl (by decide) Try.isAgg58 i58 rfl (show 0 + 2 ≤ 2 by decide) .tmp)) ⟨(congrArg mB hc28), rfl, trivial⟩ rfl <| .cons (.on (t := 73) rfl rfl (c_call (ins := [.agg [.t (.v (.int .i64 v44.1)), .t (.sl (v44.2.map e3))]]) (caps := []) rfl rfl rfl (by decide) .clo (ref04_All_calls _ _ _ hv45) (.cons .tmp .nil) rfl rfl)) ⟨(congrArg mB hc28), rfl, trivial⟩ rfl <| .cons (.on (t := 73) rfl rfl (k_len (i := Try.t3) (l := v45) (f := e3) (fun _ => rfl) (by decide) rfl rfl (by decide) Try.underlying42 (src_tree (f := e3) (fun _ => rfl) (by decide) .tmp))) ⟨(congrArg mB hc28), rfl, trivial⟩ rfl <| .cons (.on (t := 73) rfl rfl (c_gtr rfl rfl (by decide) .tmp (.const rfl))) ⟨(congrArg mB hc28), rfl, trivial⟩ rfl <| .cons (.on (t := 73) rfl rfl (c_move rfl rfl (by decide) .tmp)) ⟨(congrArg mB hc28), rfl, trivial⟩ rfl <| .cons (.off (b' := false) rfl rfl rfl rfl (by decide)) ⟨(congrArg mB hc29), trivial⟩ rfl <| .cons (.off (b' := false) rfl rfl rfl rfl (by decide)) ⟨(congrArg mB hc29), trivial⟩ rfl <| .cons (.off (b' := false) rfl rfl rfl rfl (by decide)) ⟨(congrArg mB hc29), trivial⟩ rfl <| .cons (.off (b' := false) rfl rfl rfl rfl (by decide)) ⟨(congrArg mB hc29), trivial⟩ rfl <| .cons (.on (t := 73) rfl rfl (c_pick (b := false) rfl rfl (by decide) .tmp rfl (.const rfl))) ⟨(congrArg mB hc28), (congrArg mB hc29), trivial⟩ rfl <| .cons (.plain rfl (c_pick (b := false) rfl rfl (by decide) .tmp rfl .tmp)) ⟨(congrArg mB hc28), rfl, trivial⟩ rfl <| .nil) rfl rfl ?_
                    obtain rfl := Option.some.inj h
                    show Goes _ _
                    exact (Goes.into [(1, 1)] ⟨rfl, rfl, .refl, .refl, .refl, .refl, .refl, .refl, .refl, .refl, .refl, trivial⟩)
              · show AW _ _ _ _ _
                refine aw_cond .tmp ⟨rfl, trivial⟩ (fun hc30 => ?_) (fun hc30 => ?_)
                · have h := of_true hc30 h
                  refine aw_seq ?_
                  refine aw_region (.cons (.plain rfl (c_assign rfl rfl (by decide) (.const rfl))) trivial rfl <| .nil) ?_
                  show AW _ _ _ _ _
                  refine aw_goes (σ' := [(.tmp 2, .m (.one (.t (.v (.bool false)))))]) (Goes.into [] ⟨rfl, rfl, .refl, trivial⟩) ?_
                  refine aw_ret ?_
                  obtain rfl := Option.some.inj h
                  refine ⟨_, rfl, fun h => ?_⟩
                  obtain rfl := Option.some.inj h
                  exact ⟨.inr rfl, _, [], (.tmp rfl .nil), rfl, rfl, rfl, ⟨rfl, rfl, trivial⟩⟩
                · have h := of_false hc30 h
                  refine aw_skip ?_
                  show AW _ _ _ _ _
                  refine aw_region (.cons (.plain rfl (c_move rfl rfl (by decide) .tmp)) ⟨rfl, trivial⟩ rfl <| .cons (.plain rfl (c_add rfl rfl (by decide) .tmp (.const rfl))) ⟨rfl, trivial⟩ rfl <| .cons (.plain rfl (c_assign rfl rfl (by decide) .tmp)) ⟨rfl, trivial⟩ rfl <| .nil) ?_
                  obtain rfl := Option.some.inj h
                  exact ⟨_, rfl, (Goes.into [(1, 1)] ⟨rfl, rfl, .refl, .refl, .refl, .refl, .refl, .refl, .refl, .refl, trivial⟩)⟩
            · have h := of_false hc25 h
              refine aw_exit ?_
              obtain rfl := Option.some.inj h
              exact ⟨_, rfl, (Goes.into [(1, 1)] ⟨rfl, rfl, .refl, .refl, .refl, .refl, .refl, .refl, trivial⟩)⟩
          · show AW _ _ _ _ _
            refine aw_seq ?_
            obtain ⟨v48, hv48, h⟩ := bind_some h
            refine aw_region (.cons (.plain rfl (c_loadBox (cs := [.t (.sl (p0_0.map e57)), .t (.v (.int .i64 p0_1)), .t (.sl (p0_2.map e51)), .t (.sl (p0_3.map e42)), .t (.v (.int .u64 p0_4))]) rfl rfl (by decide) Try.isAgg27 i27 rfl .tmp)) ⟨rfl, rfl, rfl, rfl, rfl, rfl, trivial⟩ rfl <| .cons (.plain rfl (c_call (ins := [.agg [.t (.sl (p0_0.map e57)), .t (.v (.int .i64 p0_1)), .t (.sl (p0_2.map e51)), .t (.sl (p0_3.map e42)), .t (.v (.int .u64 p0_4))]]) (caps := []) rfl rfl rfl (by decide) .clo (ref15_All_calls _ _ _ _ _ _ hv48) (.cons .tmp .nil) rfl rfl)) ⟨rfl, trivial⟩ rfl <| .cons (.plain rfl (c_assign rfl rfl (by decide) .tmp)) ⟨rfl, trivial⟩ rfl <| .nil) ?_
            show AW _ _ _ _ _
            refine aw_seq ?_
            refine aw_seq ?_
            refine aw_region (.cons (.plain rfl (c_assign rfl rfl (by decide) (.const rfl))) trivial rfl <| .nil) ?_
            show AW _ _ _ _ _
            refine aw_loopJ (fun v69 : Int => [(.tmp 6, .m (.one (.t (.sl (v48.map e3))))), (.tmp 7, .m (.one (.t (.v (.int .i64 v69)))))]) (fun v70 : Unit => []) h (Goes.into [] ⟨rfl, rfl, .refl, .refl, trivial⟩) (fun v69 _ h => ?_) (fun v70 h => ?_)
            · unfold ref15_May_L2 at h
              refine aw_seq ?_
              refine aw_seq ?_
              refine aw_region (.cons (.plain rfl (c_move rfl rfl (by decide) .tmp)) ⟨rfl, trivial⟩ rfl <| .cons (.plain rfl (c_move rfl rfl (by decide) .tmp)) ⟨rfl, trivial⟩ rfl <| .cons (.plain rfl (k_len (i := Try.t3) (l := v48) (f := e3) (fun _ => rfl) (by decide) rfl rfl (by decide) Try.underlying42 (src_tree (f := e3) (fun _ => rfl) (by decide) .tmp))) ⟨rfl, trivial⟩ rfl <| .cons (.plain rfl (c_lss rfl rfl (by decide) .tmp .tmp)) ⟨rfl, rfl, trivial⟩ rfl <| .nil) ?_
              show AW _ _ _ _ _
              refine aw_cond .tmp ⟨rfl, trivial⟩ (fun hc39 => ?_) (fun hc39 => ?_)
              · have h := of_true hc39 h
                refine aw_skip ?_
                show AW _ _ _ _ _
                refine aw_seq ?_
                refine aw_block ?_
                refine aw_seq ?_
                refine aw_cut0 (fun v79 : Bool => [(.tmp 6, .m (.one (.t (.sl (v48.map e3))))), (.tmp 7, .m (.one (.t (.v (.int .i64 v69))))), (.tmp 111, .m (.one (.t (.v (.bool v79)))))]) h (fun _ h => ?_) (fun v79 h => ?_)
                · obtain ⟨v75, hv75, h⟩ := bind_some h
                  cases hc41 : decide (v75 < 1) with
                  | true =>
                    have h := of_true hc41 h
                    refine aw_region_draw mixed (.cons (.plain rfl (c_move rfl rfl (by decide) .tmp)) ⟨rfl, trivial⟩ rfl <| .cons (.plain rfl (c_move rfl rfl (by decide) .tmp)) ⟨rfl, trivial⟩ rfl <| .cons (.plain rfl (k_index (f := e3) (i := Try.t3) hv75 rfl rfl rfl (by decide) Try.underlying42 i3 .tmp .tmp)) ⟨rfl, rfl, trivial⟩ rfl <| .cons (.plain rfl (c_loadTree rfl rfl (by decide) Try.isAgg3 .tmp rfl)) ⟨rfl, trivial⟩ rfl <| .cons (.plain rfl (c_lss rfl rfl (by decide) .tmp (.const rfl))) ⟨rfl, trivial⟩ rfl <| .cons (.plain rfl (c_move rfl rfl (by decide) .tmp)) ⟨rfl, trivial⟩ rfl <| .cons (.off (b' := true) rfl rfl rfl rfl (by decide)) ⟨(congrArg mB hc41), trivial⟩ rfl <| .cons (.off (b' := true) rfl rfl rfl rfl (by decide)) ⟨(congrArg mB hc41), trivial⟩ rfl <| .cons (.off (b' := true) rfl rfl rfl rfl (by decide)) ⟨(congrArg mB hc41), trivial⟩ rfl <| .cons (.off (b' := true) rfl rfl rfl rfl (by decide)) ⟨(congrArg mB hc41), trivial⟩ rfl <| .cons (.off (b' := true) rfl rfl rfl rfl (by decide)) ⟨(congrArg mB hc41), trivial⟩ rfl <| .cons (.off (b' := true) rfl rfl rfl rfl (by decide)) ⟨(congrArg mB hc41), trivial⟩ rfl <| .cons (.off (b' := true) rfl rfl rfl rfl (by decide)) ⟨(congrArg mB hc41), trivial⟩ rfl <| .cons (.off (b' := true) rfl rfl rfl rfl (by decide)) ⟨(congrArg mB hc41), trivial⟩ rfl <| .cons (.plain rfl (c_pick (b := true) rfl rfl (by decide) .tmp rfl (.const rfl))) ⟨(congrArg mB hc41), trivial⟩ rfl <| .nil) rfl rfl ?_
                    obtain rfl := Option.some.inj h
                    show Goes _ _
                    exact (Goes.into [] ⟨rfl, rfl, .refl, .refl, .refl, trivial⟩)
                  | false =>
                    have h := of_false hc41 h
                    obtain ⟨v76, hv76, h⟩ := bind_some h
                    obtain ⟨v77, hv77, h⟩ := bind_some h
                    obtain ⟨v78, hv78, h⟩ := bind_some h
                    refine aw_region_draw mixed (.cons (.plain rfl (c_move rfl rfl (by decide) .tmp)) ⟨rfl, trivial⟩ rfl <| .cons (.plain rfl (c_move rfl rfl (by decide) .tmp)) ⟨rfl, trivial⟩ rfl <| .cons (.plain rfl (k_index (f := e3) (i := Try.t3) hv75 rfl rfl rfl (by decide) Try.underlying42 i3 .tmp .tmp)) ⟨rfl, rfl, trivial⟩ rfl <| .cons (.plain rfl (c_loadTree rfl rfl (by decide) Try.isAgg3 .tmp rfl)) ⟨rfl, trivial⟩ rfl <| .cons (.plain rfl (c_lss rfl rfl (by decide) .tmp (.const rfl))) ⟨rfl, trivial⟩ rfl <| .cons (.plain rfl (c_move rfl rfl (by decide) .tmp)) ⟨rfl, trivial⟩ rfl <| .cons (.on (t := 102) rfl rfl (c_move rfl rfl (by decide) .tmp)) ⟨(congrArg mB hc41), rfl, trivial⟩ rfl <| .cons (.on (t := 102) rfl rfl (c_move rfl rfl (by decide) .tmp)) ⟨(congrArg mB hc41), rfl, trivial⟩ rfl <| .cons (.on (t := 102) rfl rfl (k_sliceH (f := e3) (i := Try.t3) hv76 (fun _ => rfl) rfl rfl (by decide) Try.underlying42 i3 (.tree .tmp) .tmp)) ⟨(congrArg mB hc41), rfl, rfl, trivial⟩ rfl <| .cons (.on (t := 102) rfl rfl (c_move rfl rfl (by decide) .tmp)) ⟨(congrArg mB hc41), rfl, trivial⟩ rfl <| .cons (.on (t := 102) rfl rfl (c_move rfl rfl (by decide) .tmp)) ⟨(congrArg mB hc41), rfl, trivial⟩ rfl <| .cons (.on (t := 102) rfl rfl (k_index (f := e3) (i := Try.t3) hv77 rfl rfl rfl (by decide) Try.underlying42 i3 .tmp .tmp)) ⟨(congrArg mB hc41), rfl, rfl, trivial⟩ rfl <| .cons (.on (t := 102) rfl rfl (c_loadTree rfl rfl (by decide) Try.isAgg3 .tmp rfl)) ⟨(congrArg mB hc41), rfl, trivial⟩ rfl <| .cons (.on (t := 102) rfl rfl (c_call (ins := [.one (.t (.sl (v76.map e3))), .one (.t (.v (.int .i64 v77)))]) (caps := []) rfl rfl rfl (by decide) .clo (ref01_In_calls _ _ _ hv78) (.cons .tmp (.cons .tmp .nil)) rfl rfl)) ⟨(congrArg mB hc41), rfl, rfl, trivial⟩ rfl <| .cons (.plain rfl (c_pick (b := false) rfl rfl (by decide) .tmp rfl .tmp)) ⟨(congrArg mB hc41), rfl, trivial⟩ rfl <| .nil) rfl rfl ?_
                    obtain rfl := Option.some.inj h
                    show Goes _ _
                    exact (Goes.into [] ⟨rfl, rfl, .refl, .refl, .refl, trivial⟩)
                · show AW _ _ _ _ _
                  refine aw_cond .tmp ⟨rfl, trivial⟩ (fun hc42 => ?_) (fun hc42 => ?_)
                  · have h := of_true hc42 h
                    refine aw_seq ?_
                    refine aw_region (.cons (.plain rfl (c_assign rfl rfl (by decide) (.const rfl))) trivial rfl <| .nil) ?_
                    show AW _ _ _ _ _
                    refine aw_goes (σ' := [(.tmp 2, .m (.one (.t (.v (.bool false)))))]) (Goes.into [] ⟨rfl, rfl, .refl, trivial⟩) ?_
                    refine aw_ret ?_
                    obtain rfl := Option.some.inj h
                    refine ⟨_, rfl, fun h => ?_⟩
                    obtain rfl := Option.some.inj h
                    exact ⟨.inr rfl, _, [], (.tmp rfl .nil), rfl, rfl, rfl, ⟨rfl, rfl, trivial⟩⟩
                  · have h := of_false hc42 h
                    refine aw_skip ?_
                    show AW _ _ _ _ _
                    refine aw_region (.cons (.plain rfl (c_move rfl rfl (by decide) .tmp)) ⟨rfl, trivial⟩ rfl <| .cons (.plain rfl (c_add rfl rfl (by decide) .tmp (.const rfl))) ⟨rfl, trivial⟩ rfl <| .cons (.plain rfl (c_assign rfl rfl (by decide) .tmp)) ⟨rfl, trivial⟩ rfl <| .nil) ?_
                    obtain rfl := Option.some.inj h
                    exact ⟨_, rfl, (Goes.into [] ⟨rfl, rfl, .refl, .refl, trivial⟩)⟩
              · have h := of_false hc39 h
                refine aw_exit ?_
                obtain rfl := Option.some.inj h
                exact ⟨_, rfl, (Goes.into [] ⟨rfl, rfl, trivial⟩)⟩
            · show AW _ _ _ _ _
              refine aw_seq ?_
              refine aw_region (.cons (.plain rfl (c_assign rfl rfl (by decide) (.const rfl))) trivial rfl <| .nil) ?_
              show AW _ _ _ _ _
              refine aw_goes (σ' := [(.tmp 2, .m (.one (.t (.v (.bool true)))))]) (Goes.into [] ⟨rfl, rfl, .refl, trivial⟩) ?_
              refine aw_ret ?_
              obtain rfl := Option.some.inj h
              exact ⟨.inr rfl, _, [], (.tmp rfl .nil), rfl, rfl, rfl, ⟨rfl, rfl, trivial⟩⟩

def ref02_Procs (p0 : List (Int × Int)) : Option Int := (ref01_Check p0).bind fun v1 => bif !decide (v1 = 0) then some 0 else (ref01_Of p0 3).bind fun v2 => some ((v2.length : Int))
theorem ref02_Procs_calls (p0 : List (Int × Int)) (r : Int) (h : ref02_Procs p0 = some r) : ACalls Try.prog 71 [.one (.t (.sl (p0.map e57)))] [] (.one (.t (.v (.int .i64 r)))) [] := by
  unfold ref02_Procs at h
  refine acalls_of_AW Try.func71 rfl Try.call71 (by decide) (show 1 ≤ 9 by decide) rfl rfl ?_
  refine aw_seq ?_
  refine aw_region (.cons (.plain rfl (c_assign rfl rfl (by decide) (.const rfl))) trivial rfl <| .nil) ?_
  show AW _ _ _ _ _
  refine aw_seq ?_
  refine aw_seq ?_
  obtain ⟨v1, hv1, h⟩ := bind_some h
  refine aw_region (.cons (.plain rfl (c_move rfl rfl (by decide) .tmp)) ⟨rfl, trivial⟩ rfl <| .cons (.plain rfl (c_call (ins := [.one (.t (.sl (p0.map e57)))]) (caps := []) rfl rfl rfl (by decide) .clo (ref01_Check_calls _ _ hv1) (.cons .tmp .nil) rfl rfl)) ⟨rfl, trivial⟩ rfl <| .cons (.plain rfl (c_neq rfl rfl (by decide) .tmp (.const rfl))) ⟨rfl, trivial⟩ rfl <| .nil) ?_
  show AW _ _ _ _ _
  refine aw_cond .tmp ⟨rfl, trivial⟩ (fun hc1 => ?_) (fun hc1 => ?_)
  · have h := of_true hc1 h
    refine aw_seq ?_
    refine aw_region (.cons (.plain rfl (c_assign rfl rfl (by decide) (.const rfl))) trivial rfl <| .nil) ?_
    show AW _ _ _ _ _
    refine aw_goes (σ' := [(.tmp 2, .m (.one (.t (.v (.int .i64 0)))))]) (Goes.into [] ⟨rfl, rfl, .refl, trivial⟩) ?_
    refine aw_ret ?_
    obtain rfl := Option.some.inj h
    exact ⟨.inr rfl, _, [], (.tmp rfl .nil), rfl, rfl, rfl, ⟨rfl, rfl, trivial⟩⟩
  · have h := of_false hc1 h
    refine aw_skip ?_
    show AW _ _ _ _ _
    refine aw_seq ?_
    obtain ⟨v2, hv2, h⟩ := bind_some h
    refine aw_region (.cons (.plain rfl (c_move rfl rfl (by decide) .tmp)) ⟨rfl, trivial⟩ rfl <| .cons (.plain rfl (c_call (ins := [.one (.t (.sl (p0.map e57))), .one (.t (.v (.int .i64 3)))]) (caps := []) rfl rfl rfl (by decide) .clo (ref01_Of_calls _ _ _ hv2) (.cons .tmp (.cons (.const rfl) .nil)) rfl rfl)) ⟨rfl, trivial⟩ rfl <| .cons (.plain rfl (k_len (i := Try.t3) (l := v2) (f := e3) (fun _ => rfl) (by decide) rfl rfl (by decide) Try.underlying42 (src_tree (f := e3) (fun _ => rfl) (by decide) .tmp))) ⟨rfl, trivial⟩ rfl <| .cons (.plain rfl (c_assign rfl rfl (by decide) .tmp)) ⟨rfl, trivial⟩ rfl <| .nil) ?_
    show AW _ _ _ _ _
    refine aw_goes (σ' := [(.tmp 2, .m (.one (.t (.v (.int .i64 ((v2.length : Int)))))))]) (Goes.into [] ⟨rfl, rfl, .refl, trivial⟩) ?_
    refine aw_ret ?_
    obtain rfl := Option.some.inj h
    exact ⟨.inr rfl, _, [], (.tmp rfl .nil), rfl, rfl, rfl, ⟨rfl, rfl, trivial⟩⟩

def ref01_Up : Nat → List (Int × Int) → Int → Int → Option Int
  | 0, _, _, _ => none
  | n + 1, p0, p1, p2 => (bif decide (p1 < 0) then some true else some (decide ((p0.length : Int) ≤ p1)) : Option Bool).bind fun v1 => bif v1 then some ((-1)) else (at_ p0 p1).bind fun v2 => bif decide (v2.2 = p2) then some p1 else (at_ p0 p1).bind fun v3 => bif decide (p1 ≤ v3.1) then some ((-1)) else (at_ p0 p1).bind fun v4 => (ref01_Up n p0 v4.1 p2).bind fun v5 => some v5
theorem ref01_Up_calls (n : Nat) : ∀ (p0 : List (Int × Int)) (p1 : Int) (p2 : Int) (r : Int), ref01_Up n p0 p1 p2 = some r → ACalls Try.prog 72 [.one (.t (.sl (p0.map e57))), .one (.t (.v (.int .i64 p1))), .one (.t (.v (.int .i64 p2)))] [] (.one (.t (.v (.int .i64 r)))) [] := by
  induction n with
  | zero =>
    intro p0 p1 p2 r h
    unfold ref01_Up at h
    cases h
  | succ n ih =>
    intro p0 p1 p2 r h
    unfold ref01_Up at h
    refine acalls_of_AW Try.func72 rfl Try.call72 (by decide) (show 3 ≤ 38 by decide) rfl rfl ?_
    refine aw_seq ?_
    refine aw_region (.cons (.plain rfl (c_assign rfl rfl (by decide) (.const rfl))) trivial rfl <| .nil) ?_
    show AW _ _ _ _ _
    refine aw_seq ?_
    refine aw_seq ?_
    refine aw_cut0 (fun v1 : Bool => [(.tmp 0, .m (.one (.t (.sl (p0.map e57))))), (.tmp 1, .m (.one (.t (.v (.int .i64 p1))))), (.tmp 2, .m (.one (.t (.v (.int .i64 p2))))), (.tmp 14, .m (.one (.t (.v (.bool v1)))))]) h (fun _ h => ?_) (fun v1 h => ?_)
    · cases hc2 : decide (p1 < 0) with
      | true =>
        have h := of_true hc2 h
        refine aw_region (.cons (.plain rfl (c_move rfl rfl (by decide) .tmp)) ⟨rfl, trivial⟩ rfl <| .cons (.plain rfl (c_lss rfl rfl (by decide) .tmp (.const rfl))) ⟨rfl, trivial⟩ rfl <| .cons (.plain rfl (c_move rfl rfl (by decide) .tmp)) ⟨rfl, trivial⟩ rfl <| .cons (.off (b' := true) rfl rfl rfl rfl (by decide)) ⟨(congrArg mB hc2), trivial⟩ rfl <| .cons (.off (b' := true) rfl rfl rfl rfl (by decide)) ⟨(congrArg mB hc2), trivial⟩ rfl <| .cons (.off (b' := true) rfl rfl rfl rfl (by decide)) ⟨(congrArg mB hc2), trivial⟩ rfl <| .cons (.off (b' := true) rfl rfl rfl rfl (by decide)) ⟨(congrArg mB hc2), trivial⟩ rfl <| .cons (.plain rfl (c_pick (b := true) rfl rfl (by decide) .tmp rfl (.const rfl))) ⟨(congrArg mB hc2), trivial⟩ rfl <| .nil) ?_
        obtain rfl := Option.some.inj h
        show Goes _ _
        exact (Goes.into [] ⟨rfl, rfl, .refl, .refl, .refl, .refl, trivial⟩)
      | false =>
        have h := of_false hc2 h
        refine aw_region (.cons (.plain rfl (c_move rfl rfl (by decide) .tmp)) ⟨rfl, trivial⟩ rfl <| .cons (.plain rfl (c_lss rfl rfl (by decide) .tmp (.const rfl))) ⟨rfl, trivial⟩ rfl <| .cons (.plain rfl (c_move rfl rfl (by decide) .tmp)) ⟨rfl, trivial⟩ rfl <| .cons (.on (t := 9) rfl rfl (c_move rfl rfl (by decide) .tmp)) ⟨(congrArg mB hc2), rfl, trivial⟩ rfl <| .cons (.on (t := 9) rfl rfl (c_move rfl rfl (by decide) .tmp)) ⟨(congrArg mB hc2), rfl, trivial⟩ rfl <| .cons (.on (t := 9) rfl rfl (k_len (i := Try.t57) (l := p0) (f := e57) (fun _ => rfl) (by decide) rfl rfl (by decide) Try.underlying22 (src_tree (f := e57) (fun _ => rfl) (by decide) .tmp))) ⟨(congrArg mB hc2), rfl, trivial⟩ rfl <| .cons (.on (t := 9) rfl rfl (c_geq rfl rfl (by decide) .tmp .tmp)) ⟨(congrArg mB hc2), rfl, rfl, trivial⟩ rfl <| .cons (.plain rfl (c_pick (b := false) rfl rfl (by decide) .tmp rfl .tmp)) ⟨(congrArg mB hc2), rfl, trivial⟩ rfl <| .nil) ?_
        obtain rfl := Option.some.inj h
        show Goes _ _
        exact (Goes.into [] ⟨rfl, rfl, .refl, .refl, .refl, .refl, trivial⟩)
    · show AW _ _ _ _ _
      refine aw_cond .tmp ⟨rfl, trivial⟩ (fun hc3 => ?_) (fun hc3 => ?_)
      · have h := of_true hc3 h
        refine aw_seq ?_
        refine aw_region (.cons (.plain rfl (c_assign rfl rfl (by decide) (.const rfl))) trivial rfl <| .nil) ?_
        show AW _ _ _ _ _
        refine aw_goes (σ' := [(.tmp 6, .m (.one (.t (.v (.int .i64 ((-1)))))))]) (Goes.into [] ⟨rfl, rfl, .refl, trivial⟩) ?_
        refine aw_ret ?_
        obtain rfl := Option.some.inj h
        exact ⟨.inr rfl, _, [], (.tmp rfl .nil), rfl, rfl, rfl, ⟨rfl, rfl, trivial⟩⟩
      · have h := of_false hc3 h
        refine aw_skip ?_
        show AW _ _ _ _ _
        refine aw_seq ?_
        refine aw_seq ?_
        obtain ⟨v2, hv2, h⟩ := bind_some h
        refine aw_region (.cons (.plain rfl (c_move rfl rfl (by decide) .tmp)) ⟨rfl, trivial⟩ rfl <| .cons (.plain rfl (c_move rfl rfl (by decide) .tmp)) ⟨rfl, trivial⟩ rfl <| .cons (.plain rfl (k_index (f := e57) (i := Try.t57) hv2 rfl rfl rfl (by decide) Try.underlying22 i57 .tmp .tmp)) ⟨rfl, rfl, trivial⟩ rfl <| .cons (.plain rfl (k_fieldT 3 1 rfl rfl (by decide) Try.underlying57 rfl i3 (by decide) .tmp)) ⟨rfl, trivial⟩ rfl <| .cons (.plain rfl (c_loadTree rfl rfl (by decide) Try.isAgg3 .tmp rfl)) ⟨rfl, trivial⟩ rfl <| .cons (.plain rfl (c_move rfl rfl (by decide) .tmp)) ⟨rfl, trivial⟩ rfl <| .cons (.plain rfl (c_eql rfl rfl (by decide) .tmp .tmp)) ⟨rfl, rfl, trivial⟩ rfl <| .nil) ?_
        show AW _ _ _ _ _
        refine aw_cond .tmp ⟨rfl, trivial⟩ (fun hc4 => ?_) (fun hc4 => ?_)
        · have h := of_true hc4 h
          refine aw_seq ?_
          refine aw_region (.cons (.plain rfl (c_move rfl rfl (by decide) .tmp)) ⟨rfl, trivial⟩ rfl <| .cons (.plain rfl (c_assign rfl rfl (by decide) .tmp)) ⟨rfl, trivial⟩ rfl <| .nil) ?_
          show AW _ _ _ _ _
          refine aw_goes (σ' := [(.tmp 6, .m (.one (.t (.v (.int .i64 p1)))))]) (Goes.into [] ⟨rfl, rfl, .refl, trivial⟩) ?_
          refine aw_ret ?_
          obtain rfl := Option.some.inj h
          exact ⟨.inr rfl, _, [], (.tmp rfl .nil), rfl, rfl, rfl, ⟨rfl, rfl, trivial⟩⟩
        · have h := of_false hc4 h
          refine aw_skip ?_
          show AW _ _ _ _ _
          refine aw_seq ?_
          refine aw_seq ?_
          obtain ⟨v3, hv3, h⟩ := bind_some h
          refine aw_region (.cons (.plain rfl (c_move rfl rfl (by decide) .tmp)) ⟨rfl, trivial⟩ rfl <| .cons (.plain rfl (c_move rfl rfl (by decide) .tmp)) ⟨rfl, trivial⟩ rfl <| .cons (.plain rfl (k_index (f := e57) (i := Try.t57) hv3 rfl rfl rfl (by decide) Try.underlying22 i57 .tmp .tmp)) ⟨rfl, rfl, trivial⟩ rfl <| .cons (.plain rfl (k_fieldT 3 0 rfl rfl (by decide) Try.underlying57 rfl i3 (by decide) .tmp)) ⟨rfl, trivial⟩ rfl <| .cons (.plain rfl (c_loadTree rfl rfl (by decide) Try.isAgg3 .tmp rfl)) ⟨rfl, trivial⟩ rfl <| .cons (.plain rfl (c_move rfl rfl (by decide) .tmp)) ⟨rfl, trivial⟩ rfl <| .cons (.plain rfl (c_geq rfl rfl (by decide) .tmp .tmp)) ⟨rfl, rfl, trivial⟩ rfl <| .nil) ?_
          show AW _ _ _ _ _
          refine aw_cond .tmp ⟨rfl, trivial⟩ (fun hc5 => ?_) (fun hc5 => ?_)
          · have h := of_true hc5 h
            refine aw_seq ?_
            refine aw_region (.cons (.plain rfl (c_assign rfl rfl (by decide) (.const rfl))) trivial rfl <| .nil) ?_
            show AW _ _ _ _ _
            refine aw_goes (σ' := [(.tmp 6, .m (.one (.t (.v (.int .i64 ((-1)))))))]) (Goes.into [] ⟨rfl, rfl, .refl, trivial⟩) ?_
            refine aw_ret ?_
            obtain rfl := Option.some.inj h
            exact ⟨.inr rfl, _, [], (.tmp rfl .nil), rfl, rfl, rfl, ⟨rfl, rfl, trivial⟩⟩
          · have h := of_false hc5 h
            refine aw_skip ?_
            show AW _ _ _ _ _
            refine aw_seq ?_
            obtain ⟨v4, hv4, h⟩ := bind_some h
            obtain ⟨v5, hv5, h⟩ := bind_some h
            refine aw_region (.cons (.plain rfl (c_move rfl rfl (by decide) .tmp)) ⟨rfl, trivial⟩ rfl <| .cons (.plain rfl (c_move rfl rfl (by decide) .tmp)) ⟨rfl, trivial⟩ rfl <| .cons (.plain rfl (c_move rfl rfl (by decide) .tmp)) ⟨rfl, trivial⟩ rfl <| .cons (.plain rfl (k_index (f := e57) (i := Try.t57) hv4 rfl rfl rfl (by decide) Try.underlying22 i57 .tmp .tmp)) ⟨rfl, rfl, trivial⟩ rfl <| .cons (.plain rfl (k_fieldT 3 0 rfl rfl (by decide) Try.underlying57 rfl i3 (by decide) .tmp)) ⟨rfl, trivial⟩ rfl <| .cons (.plain rfl (c_loadTree rfl rfl (by decide) Try.isAgg3 .tmp rfl)) ⟨rfl, trivial⟩ rfl <| .cons (.plain rfl (c_move rfl rfl (by decide) .tmp)) ⟨rfl, trivial⟩ rfl <| .cons (.plain rfl (c_call (ins := [.one (.t (.sl (p0.map e57))), .one (.t (.v (.int .i64 v4.1))), .one (.t (.v (.int .i64 p2)))]) (caps := []) rfl rfl rfl (by decide) .clo (ih _ _ _ _ hv5) (.cons .tmp (.cons .tmp (.cons .tmp .nil))) rfl rfl)) ⟨rfl, rfl, rfl, trivial⟩ rfl <| .cons (.plain rfl (c_assign rfl rfl (by decide) .tmp)) ⟨rfl, trivial⟩ rfl <| .nil) ?_
            show AW _ _ _ _ _
            refine aw_goes (σ' := [(.tmp 6, .m (.one (.t (.v (.int .i64 v5)))))]) (Goes.into [] ⟨rfl, rfl, .refl, trivial⟩) ?_
            refine aw_ret ?_
            obtain rfl := Option.some.inj h
            exact ⟨.inr rfl, _, [], (.tmp rfl .nil), rfl, rfl, rfl, ⟨rfl, rfl, trivial⟩⟩

def ref02_Node_L1 (v6 : Int) (v7 : List (Int)) (v12 : Int) : Option (Int ⊕ (Unit ⊕ Int)) := bif decide (v12 < (v7.length : Int)) then (at_ v7 v12).bind fun v14 => bif decide (v14 = v6) then some (.inr (.inr v12)) else some (.inl (wi64 (v12 + 1))) else some (.inr (.inl (())))
def ref02_Node (p0 : List (Int × Int)) (p1 : Int) : Option Int := (bif decide (p1 < 0) then some true else (ref02_Procs p0).bind fun v2 => some (decide (v2 ≤ p1)) : Option Bool).bind fun v3 => bif v3 then some ((-1)) else (ref01_Of p0 3).bind fun v4 => (at_ v4 p1).bind fun v5 => (ref01_Up fuel p0 v5 1).bind fun v6 => (ref01_Of p0 1).bind fun v7 => (loopO (ref02_Node_L1 v6 v7) fuel 0).bind fun s => s.elim (fun v13 => some ((-1))) (fun j : Int => some j)
theorem ref02_Node_calls (p0 : List (Int × Int)) (p1 : Int) (r : Int) (h : ref02_Node p0 p1 = some r) : ACalls Try.prog 31 [.one (.t (.sl (p0.map e57))), .one (.t (.v (.int .i64 p1)))] [] (.one (.t (.v (.int .i64 r)))) [] := by
  unfold ref02_Node at h
  refine acalls_of_AW Try.func31 rfl Try.call31 (by decide) (show 2 ≤ 38 by decide) rfl rfl ?_
  refine aw_seq ?_
  refine aw_region (.cons (.plain rfl (c_assign rfl rfl (by decide) (.const rfl))) trivial rfl <| .nil) ?_
  show AW _ _ _ _ _
  refine aw_seq ?_
  refine aw_seq ?_
  refine aw_cut0 (fun v3 : Bool => [(.tmp 0, .m (.one (.t (.sl (p0.map e57))))), (.tmp 1, .m (.one (.t (.v (.int .i64 p1))))), (.tmp 15, .m (.one (.t (.v (.bool v3)))))]) h (fun _ h => ?_) (fun v3 h => ?_)
  · cases hc2 : decide (p1 < 0) with
    | true =>
      have h := of_true hc2 h
      refine aw_region (.cons (.plain rfl (c_move rfl rfl (by decide) .tmp)) ⟨rfl, trivial⟩ rfl <| .cons (.plain rfl (c_lss rfl rfl (by decide) .tmp (.const rfl))) ⟨rfl, trivial⟩ rfl <| .cons (.plain rfl (c_move rfl rfl (by decide) .tmp)) ⟨rfl, trivial⟩ rfl <| .cons (.off (b' := true) rfl rfl rfl rfl (by decide)) ⟨(congrArg mB hc2), trivial⟩ rfl <| .cons (.off (b' := true) rfl rfl rfl rfl (by decide)) ⟨(congrArg mB hc2), trivial⟩ rfl <| .cons (.off (b' := true) rfl rfl rfl rfl (by decide)) ⟨(congrArg mB hc2), trivial⟩ rfl <| .cons (.off (b' := true) rfl rfl rfl rfl (by decide)) ⟨(congrArg mB hc2), trivial⟩ rfl <| .cons (.plain rfl (c_pick (b := true) rfl rfl (by decide) .tmp rfl (.const rfl))) ⟨(congrArg mB hc2), trivial⟩ rfl <| .nil) ?_
      obtain rfl := Option.some.inj h
      show Goes _ _
      exact (Goes.into [] ⟨rfl, rfl, .refl, .refl, .refl, trivial⟩)
    | false =>
      have h := of_false hc2 h
      obtain ⟨v2, hv2, h⟩ := bind_some h
      refine aw_region (.cons (.plain rfl (c_move rfl rfl (by decide) .tmp)) ⟨rfl, trivial⟩ rfl <| .cons (.plain rfl (c_lss rfl rfl (by decide) .tmp (.const rfl))) ⟨rfl, trivial⟩ rfl <| .cons (.plain rfl (c_move rfl rfl (by decide) .tmp)) ⟨rfl, trivial⟩ rfl <| .cons (.on (t := 10) rfl rfl (c_move rfl rfl (by decide) .tmp)) ⟨(congrArg mB hc2), rfl, trivial⟩ rfl <| .cons (.on (t := 10) rfl rfl (c_move rfl rfl (by decide) .tmp)) ⟨(congrArg mB hc2), rfl, trivial⟩ rfl <| .cons (.on (t := 10) rfl rfl (c_call (ins := [.one (.t (.sl (p0.map e57)))]) (caps := []) rfl rfl rfl (by decide) .clo (ref02_Procs_calls _ _ hv2) (.cons .tmp .nil) rfl rfl)) ⟨(congrArg mB hc2), rfl, trivial⟩ rfl <| .cons (.on (t := 10) rfl rfl (c_geq rfl rfl (by decide) .tmp .tmp)) ⟨(congrArg mB hc2), rfl, rfl, trivial⟩ rfl <| .cons (.plain rfl (c_pick (b := false) rfl rfl (by decide) .tmp rfl .tmp)) ⟨(congrArg mB hc2), rfl, trivial⟩ rfl <| .nil) ?_
      obtain rfl := Option.some.inj h
      show Goes _ _
      exact (Goes.into [] ⟨rfl, rfl, .refl, .refl, .refl, trivial⟩)
  · show AW _ _ _ _ _
    refine aw_cond .tmp ⟨rfl, trivial⟩ (fun hc3 => ?_) (fun hc3 => ?_)
    · have h := of_true hc3 h
      refine aw_seq ?_
      refine aw_region (.cons (.plain rfl (c_assign rfl rfl (by decide) (.const rfl))) trivial rfl <| .nil) ?_
      show AW _ _ _ _ _
      refine aw_goes (σ' := [(.tmp 4, .m (.one (.t (.v (.int .i64 ((-1)))))))]) (Goes.into [] ⟨rfl, rfl, .refl, trivial⟩) ?_
      refine aw_ret ?_
      obtain rfl := Option.some.inj h
      exact ⟨.inr rfl, _, [], (.tmp rfl .nil), rfl, rfl, rfl, ⟨rfl, rfl, trivial⟩⟩
    · have h := of_false hc3 h
      refine aw_skip ?_
      show AW _ _ _ _ _
      refine aw_seq ?_
      obtain ⟨v4, hv4, h⟩ := bind_some h
      obtain ⟨v5, hv5, h⟩ := bind_some h
      obtain ⟨v6, hv6, h⟩ := bind_some h
      refine aw_region (.cons (.plain rfl (c_move rfl rfl (by decide) .tmp)) ⟨rfl, trivial⟩ rfl <| .cons (.plain rfl (c_move rfl rfl (by decide) .tmp)) ⟨rfl, trivial⟩ rfl <| .cons (.plain rfl (c_call (ins := [.one (.t (.sl (p0.map e57))), .one (.t (.v (.int .i64 3)))]) (caps := []) rfl rfl rfl (by decide) .clo (ref01_Of_calls _ _ _ hv4) (.cons .tmp (.cons (.const rfl) .nil)) rfl rfl)) ⟨rfl, trivial⟩ rfl <| .cons (.plain rfl (c_move rfl rfl (by decide) .tmp)) ⟨rfl, trivial⟩ rfl <| .cons (.plain rfl (k_index (f := e3) (i := Try.t3) hv5 rfl rfl rfl (by decide) Try.underlying42 i3 .tmp .tmp)) ⟨rfl, rfl, trivial⟩ rfl <| .cons (.plain rfl (c_loadTree rfl rfl (by decide) Try.isAgg3 .tmp rfl)) ⟨rfl, trivial⟩ rfl <| .cons (.plain rfl (c_call (ins := [.one (.t (.sl (p0.map e57))), .one (.t (.v (.int .i64 v5))), .one (.t (.v (.int .i64 1)))]) (caps := []) rfl rfl rfl (by decide) .clo (ref01_Up_calls _ _ _ _ _ hv6) (.cons .tmp (.cons .tmp (.cons (.const rfl) .nil))) rfl rfl)) ⟨rfl, rfl, trivial⟩ rfl <| .cons (.plain rfl (c_assign rfl rfl (by decide) .tmp)) ⟨rfl, trivial⟩ rfl <| .nil) ?_
      show AW _ _ _ _ _
      refine aw_seq ?_
      obtain ⟨v7, hv7, h⟩ := bind_some h
      refine aw_region (.cons (.plain rfl (c_move rfl rfl (by decide) .tmp)) ⟨rfl, trivial⟩ rfl <| .cons (.plain rfl (c_call (ins := [.one (.t (.sl (p0.map e57))), .one (.t (.v (.int .i64 1)))]) (caps := []) rfl rfl rfl (by decide) .clo (ref01_Of_calls _ _ _ hv7) (.cons .tmp (.cons (.const rfl) .nil)) rfl rfl)) ⟨rfl, trivial⟩ rfl <| .cons (.plain rfl (c_assign rfl rfl (by decide) .tmp)) ⟨rfl, trivial⟩ rfl <| .nil) ?_
      show AW _ _ _ _ _
      refine aw_seq ?_
      refine aw_seq ?_
      refine aw_region (.cons (.plain rfl (c_assign rfl rfl (by decide) (.const rfl))) trivial rfl <| .nil) ?_
      show AW _ _ _ _ _
      refine aw_loopJ (fun v12 : Int => [(.tmp 5, .m (.one (.t (.v (.int .i64 v6))))), (.tmp 6, .m (.one (.t (.sl (v7.map e3))))), (.tmp 7, .m (.one (.t (.v (.int .i64 v12)))))]) (fun v13 : Unit => []) h (Goes.into [] ⟨rfl, rfl, .refl, .refl, .refl, trivial⟩) (fun v12 _ h => ?_) (fun v13 h => ?_)
      · unfold ref02_Node_L1 at h
        refine aw_seq ?_
        refine aw_seq ?_
        refine aw_region (.cons (.plain rfl (c_move rfl rfl (by decide) .tmp)) ⟨rfl, trivial⟩ rfl <| .cons (.plain rfl (c_move rfl rfl (by decide) .tmp)) ⟨rfl, trivial⟩ rfl <| .cons (.plain rfl (k_len (i := Try.t3) (l := v7) (f := e3) (fun _ => rfl) (by decide) rfl rfl (by decide) Try.underlying42 (src_tree (f := e3) (fun _ => rfl) (by decide) .tmp))) ⟨rfl, trivial⟩ rfl <| .cons (.plain rfl (c_lss rfl rfl (by decide) .tmp .tmp)) ⟨rfl, rfl, trivial⟩ rfl <| .nil) ?_
        show AW _ _ _ _ _
        refine aw_cond .tmp ⟨rfl, trivial⟩ (fun hc8 => ?_) (fun hc8 => ?_)
        · have h := of_true hc8 h
          refine aw_skip ?_
          show AW _ _ _ _ _
          refine aw_seq ?_
          refine aw_block ?_
          refine aw_seq ?_
          obtain ⟨v14, hv14, h⟩ := bind_some h
          refine aw_region (.cons (.plain rfl (c_move rfl rfl (by decide) .tmp)) ⟨rfl, trivial⟩ rfl <| .cons (.plain rfl (c_move rfl rfl (by decide) .tmp)) ⟨rfl, trivial⟩ rfl <| .cons (.plain rfl (k_index (f := e3) (i := Try.t3) hv14 rfl rfl rfl (by decide) Try.underlying42 i3 .tmp .tmp)) ⟨rfl, rfl, trivial⟩ rfl <| .cons (.plain rfl (c_loadTree rfl rfl (by decide) Try.isAgg3 .tmp rfl)) ⟨rfl, trivial⟩ rfl <| .cons (.plain rfl (c_move rfl rfl (by decide) .tmp)) ⟨rfl, trivial⟩ rfl <| .cons (.plain rfl (c_eql rfl rfl (by decide) .tmp .tmp)) ⟨rfl, rfl, trivial⟩ rfl <| .nil) ?_
          show AW _ _ _ _ _
          refine aw_cond .tmp ⟨rfl, trivial⟩ (fun hc9 => ?_) (fun hc9 => ?_)
          · have h := of_true hc9 h
            refine aw_seq ?_
            refine aw_region (.cons (.plain rfl (c_move rfl rfl (by decide) .tmp)) ⟨rfl, trivial⟩ rfl <| .cons (.plain rfl (c_assign rfl rfl (by decide) .tmp)) ⟨rfl, trivial⟩ rfl <| .nil) ?_
            show AW _ _ _ _ _
            refine aw_goes (σ' := [(.tmp 4, .m (.one (.t (.v (.int .i64 v12)))))]) (Goes.into [] ⟨rfl, rfl, .refl, trivial⟩) ?_
            refine aw_ret ?_
            obtain rfl := Option.some.inj h
            refine ⟨_, rfl, fun h => ?_⟩
            obtain rfl := Option.some.inj h
            exact ⟨.inr rfl, _, [], (.tmp rfl .nil), rfl, rfl, rfl, ⟨rfl, rfl, trivial⟩⟩
          · have h := of_false hc9 h
            refine aw_skip ?_
            show AW _ _ _ _ _
            refine aw_region (.cons (.plain rfl (c_move rfl rfl (by decide) .tmp)) ⟨rfl, trivial⟩ rfl <| .cons (.plain rfl (c_add rfl rfl (by decide) .tmp (.const rfl))) ⟨rfl, trivial⟩ rfl <| .cons (.plain rfl (c_assign rfl rfl (by decide) .tmp)) ⟨rfl, trivial⟩ rfl <| .nil) ?_
            obtain rfl := Option.some.inj h
            exact ⟨_, rfl, (Goes.into [] ⟨rfl, rfl, .refl, .refl, .refl, trivial⟩)⟩
        · have h := of_false hc8 h
          refine aw_exit ?_
          obtain rfl := Option.some.inj h
          exact ⟨_, rfl, (Goes.into [] ⟨rfl, rfl, trivial⟩)⟩
      · show AW _ _ _ _ _
        refine aw_seq ?_
        refine aw_region (.cons (.plain rfl (c_assign rfl rfl (by decide) (.const rfl))) trivial rfl <| .nil) ?_
        show AW _ _ _ _ _
        refine aw_goes (σ' := [(.tmp 4, .m (.one (.t (.v (.int .i64 ((-1)))))))]) (Goes.into [] ⟨rfl, rfl, .refl, trivial⟩) ?_
        refine aw_ret ?_
        obtain rfl := Option.some.inj h
        exact ⟨.inr rfl, _, [], (.tmp rfl .nil), rfl, rfl, rfl, ⟨rfl, rfl, trivial⟩⟩

def ref17_Thief (p0_0 : List (Int × Int)) (p0_1 : Int) (p0_2 : List (Int × (List (Int)))) (p0_3 : List ((List (Int)))) (p0_4 : Int) (p1 : Int) : Option Bool := ((ref15_May p0_0 p0_1 p0_2 p0_3 p0_4).bind fun v3 => bif !v3 then some true else (ref15_On p0_0 p0_1 p0_2 p0_3 p0_4 p1).bind fun v4 => some (!v4) : Option Bool).bind fun v5 => bif v5 then some false else ((at_ p0_2 p1).bind fun v10 => (ref04_All v10.1 v10.2).bind fun v11 => bif decide ((v11.length : Int) = 0) then (ref02_Node p0_0 p1).bind fun v12 => (at_ p0_3 v12).bind fun v13 => some (decide ((v13.length : Int) = 0)) else some false : Option Bool).bind fun v14 => some v14
theorem ref17_Thief_calls (p0_0 : List (Int × Int)) (p0_1 : Int) (p0_2 : List (Int × (List (Int)))) (p0_3 : List ((List (Int)))) (p0_4 : Int) (p1 : Int) (r : Bool) (h : ref17_Thief p0_0 p0_1 p0_2 p0_3 p0_4 p1 = some r) : ACalls Try.prog 19 [.agg [.t (.sl (p0_0.map e57)), .t (.v (.int .i64 p0_1)), .t (.sl (p0_2.map e51)), .t (.sl (p0_3.map e42)), .t (.v (.int .u64 p0_4))], .one (.t (.v (.int .i64 p1)))] [] (.one (.t (.v (.bool r)))) [] := by
  unfold ref17_Thief at h
  refine acalls_of_AW Try.func19 rfl Try.call19 (by decide) (show 2 ≤ 34 by decide) rfl rfl ?_
  refine aw_seq ?_
  refine aw_region (.cons (.plain rfl (k_boxN rfl rfl (by decide) .tmp rfl)) ⟨rfl, trivial⟩ rfl <| .cons (.plain rfl (c_assign rfl rfl (by decide) (.const rfl))) trivial rfl <| .nil) ?_
  show AW _ _ _ _ _
  refine aw_seq ?_
  refine aw_seq ?_
  refine aw_cut0 (fun v5 : Bool => [(.tmp 1, .m (.one (.t (.v (.int .i64 p1))))), (.tmp 2, .m (.one (.ptr 2 0))), (.tmp 13, .m (.one (.t (.v (.bool v5))))), (.cell 2 0, .c (.t (.sl (p0_0.map e57)))), (.cell 2 1, .c (.t (.v (.int .i64 p0_1)))), (.cell 2 2, .c (.t (.sl (p0_2.map e51)))), (.cell 2 3, .c (.t (.sl (p0_3.map e42)))), (.cell 2 4, .c (.t (.v (.int .u64 p0_4))))]) h (fun _ h => ?_) (fun v5 h => ?_)
  · obtain ⟨v3, hv3, h⟩ := bind_some h
    cases hc2 : !v3 with
    | true =>
      have h := of_true hc2 h
      refine aw_region (.cons (.plain rfl (c_loadBox (cs := [.t (.sl (p0_0.map e57)), .t (.v (.int .i64 p0_1)), .t (.sl (p0_2.map e51)), .t (.sl (p0_3.map e42)), .t (.v (.int .u64 p0_4))]) rfl rfl (by decide) Try.isAgg27 i27 rfl .tmp)) ⟨rfl, rfl, rfl, rfl, rfl, rfl, trivial⟩ rfl <| .cons (.plain rfl (c_call (ins := [.agg [.t (.sl (p0_0.map e57)), .t (.v (.int .i64 p0_1)), .t (.sl (p0_2.map e51)), .t (.sl (p0_3.map e42)), .t (.v (.int .u64 p0_4))]]) (caps := []) rfl rfl rfl (by decide) .clo (ref15_May_calls _ _ _ _ _ _ hv3) (.cons .tmp .nil) rfl rfl)) ⟨rfl, trivial⟩ rfl <| .cons (.plain rfl (c_not rfl rfl (by decide) .tmp)) ⟨rfl, trivial⟩ rfl <| .cons (.plain rfl (c_move rfl rfl (by decide) .tmp)) ⟨rfl, trivial⟩ rfl <| .cons (.off (b' := true) rfl rfl rfl rfl (by decide)) ⟨(congrArg mB hc2), trivial⟩ rfl <| .cons (.off (b' := true) rfl rfl rfl rfl (by decide)) ⟨(congrArg mB hc2), trivial⟩ rfl <| .cons (.off (b' := true) rfl rfl rfl rfl (by decide)) ⟨(congrArg mB hc2), trivial⟩ rfl <| .cons (.off (b' := true) rfl rfl rfl rfl (by decide)) ⟨(congrArg mB hc2), trivial⟩ rfl <| .cons (.plain rfl (c_pick (b := true) rfl rfl (by decide) .tmp rfl (.const rfl))) ⟨(congrArg mB hc2), trivial⟩ rfl <| .nil) ?_
      obtain rfl := Option.some.inj h
      show Goes _ _
      exact (Goes.into [(2, 2)] ⟨rfl, rfl, .refl, .refl, .refl, .refl, .refl, .refl, .refl, .refl, trivial⟩)
    | false =>
      have h := of_false hc2 h
      obtain ⟨v4, hv4, h⟩ := bind_some h
      refine aw_region (.cons (.plain rfl (c_loadBox (cs := [.t (.sl (p0_0.map e57)), .t (.v (.int .i64 p0_1)), .t (.sl (p0_2.map e51)), .t (.sl (p0_3.map e42)), .t (.v (.int .u64 p0_4))]) rfl rfl (by decide) Try.isAgg27 i27 rfl .tmp)) ⟨rfl, rfl, rfl, rfl, rfl, rfl, trivial⟩ rfl <| .cons (.plain rfl (c_call (ins := [.agg [.t (.sl (p0_0.map e57)), .t (.v (.int .i64 p0_1)), .t (.sl (p0_2.map e51)), .t (.sl (p0_3.map e42)), .t (.v (.int .u64 p0_4))]]) (caps := []) rfl rfl rfl (by decide) .clo (ref15_May_calls _ _ _ _ _ _ hv3) (.cons .tmp .nil) rfl rfl)) ⟨rfl, trivial⟩ rfl <| .cons (.plain rfl (c_not rfl rfl (by decide) .tmp)) ⟨rfl, trivial⟩ rfl <| .cons (.plain rfl (c_move rfl rfl (by decide) .tmp)) ⟨rfl, trivial⟩ rfl <| .cons (.on (t := 8) rfl rfl (c_loadBox (cs := [.t (.sl (p0_0.map e57)), .t (.v (.int .i64 p0_1)), .t (.sl (p0_2.map e51)), .t (.sl (p0_3.map e42)), .t (.v (.int .u64 p0_4))]) rfl rfl (by decide) Try.isAgg27 i27 rfl .tmp)) ⟨(congrArg mB hc2), rfl, rfl, rfl, rfl, rfl, rfl, trivial⟩ rfl <| .cons (.on (t := 8) rfl rfl (c_move rfl rfl (by decide) .tmp)) ⟨(congrArg mB hc2), rfl, trivial⟩ rfl <| .cons (.on (t := 8) rfl rfl (c_call (ins := [.agg [.t (.sl (p0_0.map e57)), .t (.v (.int .i64 p0_1)), .t (.sl (p0_2.map e51)), .t (.sl (p0_3.map e42)), .t (.v (.int .u64 p0_4))], .one (.t (.v (.int .i64 p1)))]) (caps := []) rfl rfl rfl (by decide) .clo (ref15_On_calls _ _ _ _ _ _ _ hv4) (.cons .tmp (.cons .tmp .nil)) rfl rfl)) ⟨(congrArg mB hc2), rfl, rfl, trivial⟩ rfl <| .cons (.on (t := 8) rfl rfl (c_not rfl rfl (by decide) .tmp)) ⟨(congrArg mB hc2), rfl, trivial⟩ rfl <| .cons (.plain rfl (c_pick (b := false) rfl rfl (by decide) .tmp rfl .tmp)) ⟨(congrArg mB hc2), rfl, trivial⟩ rfl <| .nil) ?_
      obtain rfl := Option.some.inj h
      show Goes _ _
      exact (Goes.into [(2, 2)] ⟨rfl, rfl, .refl, .refl, .refl, .refl, .refl, .refl, .refl, .refl, trivial⟩)
  · show AW _ _ _ _ _
    refine aw_cond .tmp ⟨rfl, trivial⟩ (fun hc3 => ?_) (fun hc3 => ?_)
    · have h := of_true hc3 h
      refine aw_seq ?_
      refine aw_region (.cons (.plain rfl (c_assign rfl rfl (by decide) (.const rfl))) trivial rfl <| .nil) ?_
      show AW _ _ _ _ _
      refine aw_goes (σ' := [(.tmp 4, .m (.one (.t (.v (.bool false)))))]) (Goes.into [] ⟨rfl, rfl, .refl, trivial⟩) ?_
      refine aw_ret ?_
      obtain rfl := Option.some.inj h
      exact ⟨.inr rfl, _, [], (.tmp rfl .nil), rfl, rfl, rfl, ⟨rfl, rfl, trivial⟩⟩
    · have h := of_false hc3 h
      refine aw_skip ?_
      show AW _ _ _ _ _
      refine aw_seq ?_
      refine aw_cut0 (fun v14 : Bool => [(.tmp 4, .m (.one (.t (.v (.bool v14)))))]) h (fun _ h => ?_) (fun v14 h => ?_)
      · obtain ⟨v10, hv10, h⟩ := bind_some h
        obtain ⟨v11, hv11, h⟩ := bind_some h
        cases hc5 : decide ((v11.length : Int) = 0) with
        | true =>
          have h := of_true hc5 h
          obtain ⟨v12, hv12, h⟩ := bind_some h
          obtain ⟨v13, hv13, h⟩ := bind_some h
          refine aw_region_draw mixed (.cons (.plain rfl (k_fieldP 23 2 rfl rfl (by decide) Try.underlying27 rfl i23 (by decide) .tmp)) ⟨rfl, trivial⟩ rfl <| .cons (.plain rfl (c_loadCell rfl rfl (by decide) Try.isAgg23 .tmp)) ⟨rfl, rfl, trivial⟩ rfl <| .cons (.plain rfl (c_move rfl rfl (by decide) .tmp)) ⟨rfl, trivial⟩ rfl <| .cons (.plain rfl (k_index (f := e51) (i := Try.t58) hv10 rfl rfl rfl (by decide) Try.underlying23 i58 .tmp .tmp)) ⟨rfl, rfl, trivial⟩ rfl <| .cons (.plain rfl (c_loadTrees (cs := [.v (.int .i64 v10.1), .sl (v10.2.map e3)]) rfl rfl (by decide) Try.isAgg58 i58 rfl (show 0 + 2 ≤ 2 by decide) .tmp)) ⟨rfl, trivial⟩ rfl <| .cons (.plain rfl (c_call (ins := [.agg [.t (.v (.int .i64 v10.1)), .t (.sl (v10.2.map e3))]]) (caps := []) rfl rfl rfl (by decide) .clo (ref04_All_calls _ _ _ hv11) (.cons .tmp .nil) rfl rfl)) ⟨rfl, trivial⟩ rfl <| .cons (.plain rfl (k_len (i := Try.t3) (l := v11) (f := e3) (fun _ => rfl) (by decide) rfl rfl (by decide) Try.underlying42 (src_tree (f := e3) (fun _ => rfl) (by decide) .tmp))) ⟨rfl, trivial⟩ rfl <| .cons (.plain rfl (c_eql rfl rfl (by decide) .tmp (.const rfl))) ⟨rfl, trivial⟩ rfl <| .cons (.plain rfl (c_move rfl rfl (by decide) .tmp)) ⟨rfl, trivial⟩ rfl <| .cons (.on (t := 22) rfl rfl (k_fieldP 24 3 rfl rfl (by decide) Try.underlying27 rfl i24 (by decide) .tmp)) ⟨(congrArg mB hc5), rfl, trivial⟩ rfl <| .cons (.on (t := 22) rfl rfl (c_loadCell rfl rfl (by decide) Try.isAgg24 .tmp)) ⟨(congrArg mB hc5), rfl, rfl, trivial⟩ rfl <| .cons (.on (t := 22) rfl rfl (k_fieldP 22 0 rfl rfl (by decide) Try.underlying27 rfl i22 (by decide) .tmp)) ⟨(congrArg mB hc5), rfl, trivial⟩ rfl <| .cons (.on (t := 22) rfl rfl (c_loadCell rfl rfl (by decide) Try.isAgg22 .tmp)) ⟨(congrArg mB hc5), rfl, rfl, trivial⟩ rfl <| .cons (.on (t := 22) rfl rfl (c_move rfl rfl (by decide) .tmp)) ⟨(congrArg mB hc5), rfl, trivial⟩ rfl <| .cons (.on (t := 22) rfl rfl (c_call (ins := [.one (.t (.sl (p0_0.map e57))), .one (.t (.v (.int .i64 p1)))]) (caps := []) rfl rfl rfl (by decide) .clo (ref02_Node_calls _ _ _ hv12) (.cons .tmp (.cons .tmp .nil)) rfl rfl)) ⟨(congrArg mB hc5), rfl, rfl, trivial⟩ rfl <| .cons (.on (t := 22) rfl rfl (k_index (f := e42) (i := Try.t42) hv13 rfl rfl rfl (by decide) Try.underlying24 i42 .tmp .tmp)) ⟨(congrArg mB hc5), rfl, rfl, trivial⟩ rfl <| .cons (.on (t := 22) rfl rfl (c_loadTree rfl rfl (by decide) Try.isAgg42 .tmp rfl)) ⟨(congrArg mB hc5), rfl, trivial⟩ rfl <| .cons (.on (t := 22) rfl rfl (k_len (i := Try.t3) (l := v13) (f := e3) (fun _ => rfl) (by decide) rfl rfl (by decide) Try.underlying42 (src_tree (f := e3) (fun _ => rfl) (by decide) .tmp))) ⟨(congrArg mB hc5), rfl, trivial⟩ rfl <| .cons (.on (t := 22) rfl rfl (c_eql rfl rfl (by decide) .tmp (.const rfl))) ⟨(congrArg mB hc5), rfl, trivial⟩ rfl <| .cons (.plain rfl (c_pick (b := true) rfl rfl (by decide) .tmp rfl .tmp)) ⟨(congrArg mB hc5), rfl, trivial⟩ rfl <| .cons (.plain rfl (c_assign rfl rfl (by decide) .tmp)) ⟨rfl, trivial⟩ rfl <| .nil) rfl rfl ?_
          obtain rfl := Option.some.inj h
          show Goes _ _
          exact (Goes.into [] ⟨rfl, rfl, .refl, trivial⟩)
        | false =>
          have h := of_false hc5 h
          refine aw_region_draw mixed (.cons (.plain rfl (k_fieldP 23 2 rfl rfl (by decide) Try.underlying27 rfl i23 (by decide) .tmp)) ⟨rfl, trivial⟩ rfl <| .cons (.plain rfl (c_loadCell rfl rfl (by decide) Try.isAgg23 .tmp)) ⟨rfl, rfl, trivial⟩ rfl <| .cons (.plain rfl (c_move rfl rfl (by decide) .tmp)) ⟨rfl, trivial⟩ rfl <| .cons (.plain rfl (k_index (f := e51) (i := Try.t58) hv10 rfl rfl rfl (by decide) Try.underlying23 i58 .tmp .tmp)) ⟨rfl, rfl, trivial⟩ rfl <| .cons (.plain rfl (c_loadTrees (cs := [.v (.int .i64 v10.1), .sl (v10.2.map e3)]) rfl rfl (by decide) Try.isAgg58 i58 rfl (show 0 + 2 ≤ 2 by decide) .tmp)) ⟨rfl, trivial⟩ rfl <| .cons (.plain rfl (c_call (ins := [.agg [.t (.v (.int .i64 v10.1)), .t (.sl (v10.2.map e3))]]) (caps := []) rfl rfl rfl (by decide) .clo (ref04_All_calls _ _ _ hv11) (.cons .tmp .nil) rfl rfl)) ⟨rfl, trivial⟩ rfl <| .cons (.plain rfl (k_len (i := Try.t3) (l := v11) (f := e3) (fun _ => rfl) (by decide) rfl rfl (by decide) Try.underlying42 (src_tree (f := e3) (fun _ => rfl) (by decide) .tmp))) ⟨rfl, trivial⟩ rfl <| .cons (.plain rfl (c_eql rfl rfl (by decide) .tmp (.const rfl))) ⟨rfl, trivial⟩ rfl <| .cons (.plain rfl (c_move rfl rfl (by decide) .tmp)) ⟨rfl, trivial⟩ rfl <| .cons (.off (b' := false) rfl rfl rfl rfl (by decide)) ⟨(congrArg mB hc5), trivial⟩ rfl <| .cons (.off (b' := false) rfl rfl rfl rfl (by decide)) ⟨(congrArg mB hc5), trivial⟩ rfl <| .cons (.off (b' := false) rfl rfl rfl rfl (by decide)) ⟨(congrArg mB hc5), trivial⟩ rfl <| .cons (.off (b' := false) rfl rfl rfl rfl (by decide)) ⟨(congrArg mB hc5), trivial⟩ rfl <| .cons (.off (b' := false) rfl rfl rfl rfl (by decide)) ⟨(congrArg mB hc5), trivial⟩ rfl <| .cons (.off (b' := false) rfl rfl rfl rfl (by decide)) ⟨(congrArg mB hc5), trivial⟩ rfl <| .cons (.off (b' := false) rfl rfl rfl rfl (by decide)) ⟨(congrArg mB hc5), trivial⟩ rfl <| .cons (.off (b' := false) rfl rfl rfl rfl (by decide)) ⟨(congrArg mB hc5), trivial⟩ rfl <| .cons (.off (b' := false) rfl rfl rfl rfl (by decide)) ⟨(congrArg mB hc5), trivial⟩ rfl <| .cons (.off (b' := false) rfl rfl rfl rfl (by decide)) ⟨(congrArg mB hc5), trivial⟩ rfl <| .cons (.plain rfl (c_pick (b := false) rfl rfl (by decide) .tmp rfl (.const rfl))) ⟨(congrArg mB hc5), trivial⟩ rfl <| .cons (.plain rfl (c_assign rfl rfl (by decide) .tmp)) ⟨rfl, trivial⟩ rfl <| .nil) rfl rfl ?_
          obtain rfl := Option.some.inj h
          show Goes _ _
          exact (Goes.into [] ⟨rfl, rfl, .refl, trivial⟩)
      · show AW _ _ _ _ _
        refine aw_goes (σ' := [(.tmp 4, .m (.one (.t (.v (.bool v14)))))]) (Goes.into [] ⟨rfl, rfl, .refl, trivial⟩) ?_
        refine aw_ret ?_
        obtain rfl := Option.some.inj h
        exact ⟨.inr rfl, _, [], (.tmp rfl .nil), rfl, rfl, rfl, ⟨rfl, rfl, trivial⟩⟩

def ref04_Bag_L1 (p0 : List (Int)) (p1 : List (Int)) (v101 : Int) (v135 : (Int × Int)) : Option ((Int × Int) ⊕ Int) := bif decide (v135.2 < (p0.length : Int)) then (((at_ p0 v135.2).bind fun v146 => (at_ p0 v101).bind fun v147 => bif decide (v146 = v147) then some (wi64 (v135.1 + 1)) else some v135.1 : Option Int).bind fun v148 => (at_ p1 v135.2).bind fun v149 => (at_ p0 v101).bind fun v150 => bif decide (v149 = v150) then some (wi64 (v148 - 1)) else some v148 : Option Int).bind fun v151 => some (.inl ((v151, wi64 (v135.2 + 1)))) else some (.inr v135.1)
def ref04_Bag_L2 (p0 : List (Int)) (p1 : List (Int)) (v101 : Int) : Option (Int ⊕ (Unit ⊕ Bool)) := bif decide (v101 < (p0.length : Int)) then (loopO (ref04_Bag_L1 p0 p1 v101) fuel ((0, 0))).bind fun v136 => bif !decide (v136 = 0) then some (.inr (.inr false)) else some (.inl (wi64 (v101 + 1))) else some (.inr (.inl (())))
def ref04_Bag (p0 : List (Int)) (p1 : List (Int)) : Option Bool := bif !decide ((p0.length : Int) = (p1.length : Int)) then some false else (loopO (ref04_Bag_L2 p0 p1) fuel 0).bind fun s => s.elim (fun v102 => some true) (fun j : Bool => some j)
theorem ref04_Bag_calls (p0 : List (Int)) (p1 : List (Int)) (r : Bool) (h : ref04_Bag p0 p1 = some r) : ACalls Try.prog 22 [.one (.t (.sl (p0.map e3))), .one (.t (.sl (p1.map e3)))] [] (.one (.t (.v (.bool r)))) [] := by
  unfold ref04_Bag at h
  refine acalls_of_AW Try.func22 rfl Try.call22 (by decide) (show 2 ≤ 49 by decide) rfl rfl ?_
  refine aw_seq ?_
  refine aw_region (.cons (.plain rfl (c_assign rfl rfl (by decide) (.const rfl))) trivial rfl <| .nil) ?_
  show AW _ _ _ _ _
  refine aw_seq ?_
  refine aw_seq ?_
  refine aw_region (.cons (.plain rfl (c_move rfl rfl (by decide) .tmp)) ⟨rfl, trivial⟩ rfl <| .cons (.plain rfl (k_len (i := Try.t3) (l := p0) (f := e3) (fun _ => rfl) (by decide) rfl rfl (by decide) Try.underlying42 (src_tree (f := e3) (fun _ => rfl) (by decide) .tmp))) ⟨rfl, trivial⟩ rfl <| .cons (.plain rfl (c_move rfl rfl (by decide) .tmp)) ⟨rfl, trivial⟩ rfl <| .cons (.plain rfl (k_len (i := Try.t3) (l := p1) (f := e3) (fun _ => rfl) (by decide) rfl rfl (by decide) Try.underlying42 (src_tree (f := e3) (fun _ => rfl) (by decide) .tmp))) ⟨rfl, trivial⟩ rfl <| .cons (.plain rfl (c_neq rfl rfl (by decide) .tmp .tmp)) ⟨rfl, rfl, trivial⟩ rfl <| .nil) ?_
  show AW _ _ _ _ _
  refine aw_cond .tmp ⟨rfl, trivial⟩ (fun hc1 => ?_) (fun hc1 => ?_)
  · have h := of_true hc1 h
    refine aw_seq ?_
    refine aw_region (.cons (.plain rfl (c_assign rfl rfl (by decide) (.const rfl))) trivial rfl <| .nil) ?_
    show AW _ _ _ _ _
    refine aw_goes (σ' := [(.tmp 4, .m (.one (.t (.v (.bool false)))))]) (Goes.into [] ⟨rfl, rfl, .refl, trivial⟩) ?_
    refine aw_ret ?_
    obtain rfl := Option.some.inj h
    exact ⟨.inr rfl, _, [], (.tmp rfl .nil), rfl, rfl, rfl, ⟨rfl, rfl, trivial⟩⟩
  · have h := of_false hc1 h
    refine aw_skip ?_
    show AW _ _ _ _ _
    refine aw_seq ?_
    refine aw_seq ?_
    refine aw_region (.cons (.plain rfl (c_assign rfl rfl (by decide) (.const rfl))) trivial rfl <| .nil) ?_
    show AW _ _ _ _ _
    refine aw_loopJ (fun v101 : Int => [(.tmp 0, .m (.one (.t (.sl (p0.map e3))))), (.tmp 1, .m (.one (.t (.sl (p1.map e3))))), (.tmp 5, .m (.one (.t (.v (.int .i64 v101)))))]) (fun v102 : Unit => []) h (Goes.into [] ⟨rfl, rfl, .refl, .refl, .refl, trivial⟩) (fun v101 _ h => ?_) (fun v102 h => ?_)
    · unfold ref04_Bag_L2 at h
      refine aw_seq ?_
      refine aw_seq ?_
      refine aw_region (.cons (.plain rfl (c_move rfl rfl (by decide) .tmp)) ⟨rfl, trivial⟩ rfl <| .cons (.plain rfl (c_move rfl rfl (by decide) .tmp)) ⟨rfl, trivial⟩ rfl <| .cons (.plain rfl (k_len (i := Try.t3) (l := p0) (f := e3) (fun _ => rfl) (by decide) rfl rfl (by decide) Try.underlying42 (src_tree (f := e3) (fun _ => rfl) (by decide) .tmp))) ⟨rfl, trivial⟩ rfl <| .cons (.plain rfl (c_lss rfl rfl (by decide) .tmp .tmp)) ⟨rfl, rfl, trivial⟩ rfl <| .nil) ?_
      show AW _ _ _ _ _
      refine aw_cond .tmp ⟨rfl, trivial⟩ (fun hc48 => ?_) (fun hc48 => ?_)
      · have h := of_true hc48 h
        refine aw_skip ?_
        show AW _ _ _ _ _
        refine aw_seq ?_
        refine aw_block ?_
        refine aw_seq ?_
        refine aw_region (.cons (.plain rfl (c_assign rfl rfl (by decide) (.const rfl))) trivial rfl <| .nil) ?_
        show AW _ _ _ _ _
        refine aw_seq ?_
        refine aw_seq ?_
        refine aw_region (.cons (.plain rfl (c_assign rfl rfl (by decide) (.const rfl))) trivial rfl <| .nil) ?_
        show AW _ _ _ _ _
        refine aw_loop0 (fun v135 : (Int × Int) => [(.tmp 0, .m (.one (.t (.sl (p0.map e3))))), (.tmp 1, .m (.one (.t (.sl (p1.map e3))))), (.tmp 5, .m (.one (.t (.v (.int .i64 v101))))), (.tmp 6, .m (.one (.t (.v (.int .i64 v135.1))))), (.tmp 7, .m (.one (.t (.v (.int .i64 v135.2)))))]) (fun v136 : Int => [(.tmp 0, .m (.one (.t (.sl (p0.map e3))))), (.tmp 1, .m (.one (.t (.sl (p1.map e3))))), (.tmp 5, .m (.one (.t (.v (.int .i64 v101))))), (.tmp 6, .m (.one (.t (.v (.int .i64 v136)))))]) h (Goes.into [] ⟨rfl, rfl, .refl, .refl, .refl, .refl, .refl, trivial⟩) (fun v135 _ h => ?_) (fun v136 h => ?_)
        · unfold ref04_Bag_L1 at h
          refine aw_seq ?_
          refine aw_seq ?_
          refine aw_region (.cons (.plain rfl (c_move rfl rfl (by decide) .tmp)) ⟨rfl, trivial⟩ rfl <| .cons (.plain rfl (c_move rfl rfl (by decide) .tmp)) ⟨rfl, trivial⟩ rfl <| .cons (.plain rfl (k_len (i := Try.t3) (l := p0) (f := e3) (fun _ => rfl) (by decide) rfl rfl (by decide) Try.underlying42 (src_tree (f := e3) (fun _ => rfl) (by decide) .tmp))) ⟨rfl, trivial⟩ rfl <| .cons (.plain rfl (c_lss rfl rfl (by decide) .tmp .tmp)) ⟨rfl, rfl, trivial⟩ rfl <| .nil) ?_
          show AW _ _ _ _ _
          refine aw_cond .tmp ⟨rfl, trivial⟩ (fun hc63 => ?_) (fun hc63 => ?_)
          · have h := of_true hc63 h
            refine aw_skip ?_
            show AW _ _ _ _ _
            refine aw_seq ?_
            refine aw_cut0 (fun v151 : Int => [(.tmp 0, .m (.one (.t (.sl (p0.map e3))))), (.tmp 1, .m (.one (.t (.sl (p1.map e3))))), (.tmp 5, .m (.one (.t (.v (.int .i64 v101))))), (.tmp 6, .m (.one (.t (.v (.int .i64 v151))))), (.tmp 7, .m (.one (.t (.v (.int .i64 v135.2)))))]) h (fun _ h => ?_) (fun v151 h => ?_)
            · refine aw_block ?_
              refine aw_seq ?_
              refine aw_cut0 (fun v148 : Int => [(.tmp 0, .m (.one (.t (.sl (p0.map e3))))), (.tmp 1, .m (.one (.t (.sl (p1.map e3))))), (.tmp 5, .m (.one (.t (.v (.int .i64 v101))))), (.tmp 6, .m (.one (.t (.v (.int .i64 v148))))), (.tmp 7, .m (.one (.t (.v (.int .i64 v135.2)))))]) h (fun _ h => ?_) (fun v148 h => ?_)
              · refine aw_seq ?_
                obtain ⟨v146, hv146, h⟩ := bind_some h
                obtain ⟨v147, hv147, h⟩ := bind_some h
                refine aw_region_draw mixed (.cons (.plain rfl (c_move rfl rfl (by decide) .tmp)) ⟨rfl, trivial⟩ rfl <| .cons (.plain rfl (c_move rfl rfl (by decide) .tmp)) ⟨rfl, trivial⟩ rfl <| .cons (.plain rfl (k_index (f := e3) (i := Try.t3) hv146 rfl rfl rfl (by decide) Try.underlying42 i3 .tmp .tmp)) ⟨rfl, rfl, trivial⟩ rfl <| .cons (.plain rfl (c_loadTree rfl rfl (by decide) Try.isAgg3 .tmp rfl)) ⟨rfl, trivial⟩ rfl <| .cons (.plain rfl (c_move rfl rfl (by decide) .tmp)) ⟨rfl, trivial⟩ rfl <| .cons (.plain rfl (c_move rfl rfl (by decide) .tmp)) ⟨rfl, trivial⟩ rfl <| .cons (.plain rfl (k_index (f := e3) (i := Try.t3) hv147 rfl rfl rfl (by decide) Try.underlying42 i3 .tmp .tmp)) ⟨rfl, rfl, trivial⟩ rfl <| .cons (.plain rfl (c_loadTree rfl rfl (by decide) Try.isAgg3 .tmp rfl)) ⟨rfl, trivial⟩ rfl <| .cons (.plain rfl (c_eql rfl rfl (by decide) .tmp .tmp)) ⟨rfl, rfl, trivial⟩ rfl <| .nil) rfl rfl ?_
                show AW _ _ _ _ _
                refine aw_cond .tmp ⟨rfl, trivial⟩ (fun hc68 => ?_) (fun hc68 => ?_)
                · have h := of_true hc68 h
                  refine aw_region (.cons (.plain rfl (c_move rfl rfl (by decide) .tmp)) ⟨rfl, trivial⟩ rfl <| .cons (.plain rfl (c_add rfl rfl (by decide) .tmp (.const rfl))) ⟨rfl, trivial⟩ rfl <| .cons (.plain rfl (c_assign rfl rfl (by decide) .tmp)) ⟨rfl, trivial⟩ rfl <| .nil) ?_
                  obtain rfl := Option.some.inj h
                  show Goes _ _
                  exact (Goes.into [] ⟨rfl, rfl, .refl, .refl, .refl, .refl, .refl, trivial⟩)
                · have h := of_false hc68 h
                  refine aw_skip ?_
                  obtain rfl := Option.some.inj h
                  show Goes _ _
                  exact (Goes.into [] ⟨rfl, rfl, .refl, .refl, .refl, .refl, .refl, trivial⟩)
              · show AW _ _ _ _ _
                refine aw_seq ?_
                obtain ⟨v149, hv149, h⟩ := bind_some h
                obtain ⟨v150, hv150, h⟩ := bind_some h
                refine aw_region_draw mixed (.cons (.plain rfl (c_move rfl rfl (by decide) .tmp)) ⟨rfl, trivial⟩ rfl <| .cons (.plain rfl (c_move rfl rfl (by decide) .tmp)) ⟨rfl, trivial⟩ rfl <| .cons (.plain rfl (k_index (f := e3) (i := Try.t3) hv149 rfl rfl rfl (by decide) Try.underlying42 i3 .tmp .tmp)) ⟨rfl, rfl, trivial⟩ rfl <| .cons (.plain rfl (c_loadTree rfl rfl (by decide) Try.isAgg3 .tmp rfl)) ⟨rfl, trivial⟩ rfl <| .cons (.plain rfl (c_move rfl rfl (by decide) .tmp)) ⟨rfl, trivial⟩ rfl <| .cons (.plain rfl (c_move rfl rfl (by decide) .tmp)) ⟨rfl, trivial⟩ rfl <| .cons (.plain rfl (k_index (f := e3) (i := Try.t3) hv150 rfl rfl rfl (by decide) Try.underlying42 i3 .tmp .tmp)) ⟨rfl, rfl, trivial⟩ rfl <| .cons (.plain rfl (c_loadTree rfl rfl (by decide) Try.isAgg3 .tmp rfl)) ⟨rfl, trivial⟩ rfl <| .cons (.plain rfl (c_eql rfl rfl (by decide) .tmp .tmp)) ⟨rfl, rfl, trivial⟩ rfl <| .nil) rfl rfl ?_
                show AW _ _ _ _ _
                refine aw_cond .tmp ⟨rfl, trivial⟩ (fun hc69 => ?_) (fun hc69 => ?_)
                · have h := of_true hc69 h
                  refine aw_region (.cons (.plain rfl (c_move rfl rfl (by decide) .tmp)) ⟨rfl, trivial⟩ rfl <| .cons (.plain rfl (c_sub rfl rfl (by decide) .tmp (.const rfl))) ⟨rfl, trivial⟩ rfl <| .cons (.plain rfl (c_assign rfl rfl (by decide) .tmp)) ⟨rfl, trivial⟩ rfl <| .nil) ?_
                  obtain rfl := Option.some.inj h
                  show Goes _ _
                  exact (Goes.into [] ⟨rfl, rfl, .refl, .refl, .refl, .refl, .refl, trivial⟩)
                · have h := of_false hc69 h
                  refine aw_skip ?_
                  obtain rfl := Option.some.inj h
                  show Goes _ _
                  exact (Goes.into [] ⟨rfl, rfl, .refl, .refl, .refl, .refl, .refl, trivial⟩)
            · show AW _ _ _ _ _
              refine aw_region (.cons (.plain rfl (c_move rfl rfl (by decide) .tmp)) ⟨rfl, trivial⟩ rfl <| .cons (.plain rfl (c_add rfl rfl (by decide) .tmp (.const rfl))) ⟨rfl, trivial⟩ rfl <| .cons (.plain rfl (c_assign rfl rfl (by decide) .tmp)) ⟨rfl, trivial⟩ rfl <| .nil) ?_
              obtain rfl := Option.some.inj h
              exact ⟨_, rfl, (Goes.into [] ⟨rfl, rfl, .refl, .refl, .refl, .refl, .refl, trivial⟩)⟩
          · have h := of_false hc63 h
            refine aw_exit ?_
            obtain rfl := Option.some.inj h
            exact ⟨rfl, _, rfl, (Goes.into [] ⟨rfl, rfl, .refl, .refl, .refl, .refl, trivial⟩)⟩
        · show AW _ _ _ _ _
          refine aw_seq ?_
          refine aw_region (.cons (.plain rfl (c_move rfl rfl (by decide) .tmp)) ⟨rfl, trivial⟩ rfl <| .cons (.plain rfl (c_neq rfl rfl (by decide) .tmp (.const rfl))) ⟨rfl, trivial⟩ rfl <| .nil) ?_
          show AW _ _ _ _ _
          refine aw_cond .tmp ⟨rfl, trivial⟩ (fun hc70 => ?_) (fun hc70 => ?_)
          · have h := of_true hc70 h
            refine aw_seq ?_
            refine aw_region (.cons (.plain rfl (c_assign rfl rfl (by decide) (.const rfl))) trivial rfl <| .nil) ?_
            show AW _ _ _ _ _
            refine aw_goes (σ' := [(.tmp 4, .m (.one (.t (.v (.bool false)))))]) (Goes.into [] ⟨rfl, rfl, .refl, trivial⟩) ?_
            refine aw_ret ?_
            obtain rfl := Option.some.inj h
            refine ⟨_, rfl, fun h => ?_⟩
            obtain rfl := Option.some.inj h
            exact ⟨.inr rfl, _, [], (.tmp rfl .nil), rfl, rfl, rfl, ⟨rfl, rfl, trivial⟩⟩
          · have h := of_false hc70 h
            refine aw_skip ?_
            show AW _ _ _ _ _
            refine aw_region (.cons (.plain rfl (c_move rfl rfl (by decide) .tmp)) ⟨rfl, trivial⟩ rfl <| .cons (.plain rfl (c_add rfl rfl (by decide) .tmp (.const rfl))) ⟨rfl, trivial⟩ rfl <| .cons (.plain rfl (c_assign rfl rfl (by decide) .tmp)) ⟨rfl, trivial⟩ rfl <| .nil) ?_
            obtain rfl := Option.some.inj h
            exact ⟨_, rfl, (Goes.into [] ⟨rfl, rfl, .refl, .refl, .refl, trivial⟩)⟩
      · have h := of_false hc48 h
        refine aw_exit ?_
        obtain rfl := Option.some.inj h
        exact ⟨_, rfl, (Goes.into [] ⟨rfl, rfl, trivial⟩)⟩
    · show AW _ _ _ _ _
      refine aw_seq ?_
      refine aw_region (.cons (.plain rfl (c_assign rfl rfl (by decide) (.const rfl))) trivial rfl <| .nil) ?_
      show AW _ _ _ _ _
      refine aw_goes (σ' := [(.tmp 4, .m (.one (.t (.v (.bool true)))))]) (Goes.into [] ⟨rfl, rfl, .refl, trivial⟩) ?_
      refine aw_ret ?_
      obtain rfl := Option.some.inj h
      exact ⟨.inr rfl, _, [], (.tmp rfl .nil), rfl, rfl, rfl, ⟨rfl, rfl, trivial⟩⟩

noncomputable def law17_StealSome (p0_0 : List (Int × Int)) (p0_1 : Int) (p0_2 : List (Int × (List (Int)))) (p0_3 : List ((List (Int)))) (p0_4 : Int) (p1 : Int) (p2 : Int) : Option Bool := (law17_shown).bind fun v1 => ((ref15_Few p0_0 p0_1 p0_2 p0_3 p0_4).bind fun v4 => bif !v4 then some true else (ref17_Thief p0_0 p0_1 p0_2 p0_3 p0_4 p1).bind fun v5 => some (!v5) : Option Bool).bind fun v6 => bif v6 then some v1 else (law17_made p0_0 p0_1 p0_2 p0_3 p0_4).bind fun v7 => (steal_Steal v7.1 v7.2.1 v7.2.2.1 v7.2.2.2.1 v7.2.2.2.2 p1 3).bind fun v8 => (steal_Steal v7.1 v7.2.1 v7.2.2.1 v7.2.2.2.1 v7.2.2.2.2 p1 (wi64 (p2.tmod 4))).bind fun v9 => (runs_All v7.1 v7.2.1 v7.2.2.1 v7.2.2.2.1 v7.2.2.2.2).bind fun v10 => (bif !((!decide (v8.2.2.2.2.2.1 = 0)) == (decide (0 < (v10.length : Int)))) then some true else bif !((decide (v8.2.2.2.2.2.1 = 0)) == (decide (v8.2.2.2.2.2.2 = (-1)))) then some true else bif !decide (v9.2.2.2.2.2.1 = 0) then some (decide (v8.2.2.2.2.2.1 = 0)) else some false : Option Bool).bind fun v11 => bif v11 then some false else bif decide (v9.2.2.2.2.2.1 = 0) then (bif v1 then bif decide (v9.2.2.2.2.2.2 = (-1)) then (runs_All v9.1 v9.2.1 v9.2.2.1 v9.2.2.2.1 v9.2.2.2.2.1).bind fun v15 => (runs_All v7.1 v7.2.1 v7.2.2.1 v7.2.2.2.1 v7.2.2.2.2).bind fun v16 => (ref01_Ints v15 v16).bind fun v17 => some v17 else some false else some false : Option Bool).bind fun v18 => some v18 else (bif v1 then bif decide (1 ≤ v9.2.2.2.2.2.2) then bif decide (v9.2.2.2.2.2.2 ≤ wi64 (p2.tmod 4)) then (runs_May v9.1 v9.2.1 v9.2.2.1 v9.2.2.2.1 v9.2.2.2.2.1).bind fun v24 => bif v24 then (runs_All v9.1 v9.2.1 v9.2.2.1 v9.2.2.2.1 v9.2.2.2.2.1).bind fun v25 => (app_ [v9.2.2.2.2.2.1] v25).bind fun v26 => (runs_All v7.1 v7.2.1 v7.2.2.1 v7.2.2.2.1 v7.2.2.2.2).bind fun v27 => (ref04_Bag v26 v27).bind fun v28 => some v28 else some false else some false else some false else some false : Option Bool).bind fun v29 => some v29
theorem law17_StealSome_calls (p0_0 : List (Int × Int)) (p0_1 : Int) (p0_2 : List (Int × (List (Int)))) (p0_3 : List ((List (Int)))) (p0_4 : Int) (p1 : Int) (p2 : Int) (r : Bool) (h : law17_StealSome p0_0 p0_1 p0_2 p0_3 p0_4 p1 p2 = some r) : ACalls Try.prog 4 [.agg [.t (.sl (p0_0.map e57)), .t (.v (.int .i64 p0_1)), .t (.sl (p0_2.map e51)), .t (.sl (p0_3.map e42)), .t (.v (.int .u64 p0_4))], .one (.t (.v (.int .i64 p1))), .one (.t (.v (.int .u8 p2)))] [] (.one (.t (.v (.bool r)))) [] := by
  unfold law17_StealSome at h
  refine acalls_of_AW Try.func4 rfl Try.call4 (by decide) (show 3 ≤ 109 by decide) rfl rfl ?_
  refine aw_seq ?_
  refine aw_region (.cons (.plain rfl (k_boxN rfl rfl (by decide) .tmp rfl)) ⟨rfl, trivial⟩ rfl <| .cons (.plain rfl (c_assign rfl rfl (by decide) (.const rfl))) trivial rfl <| .nil) ?_
  show AW _ _ _ _ _
  refine aw_seq ?_
  obtain ⟨v1, hv1, h⟩ := bind_some h
  refine aw_region (.cons (.plain rfl (c_call (ins := []) (caps := []) rfl rfl rfl (by decide) .clo (law17_shown_calls _ hv1) .nil rfl rfl)) trivial rfl <| .cons (.plain rfl (c_assign rfl rfl (by decide) .tmp)) ⟨rfl, trivial⟩ rfl <| .nil) ?_
  show AW _ _ _ _ _
  refine aw_seq ?_
  refine aw_seq ?_
  refine aw_cut0 (fun v6 : Bool => [(.tmp 1, .m (.one (.t (.v (.int .i64 p1))))), (.tmp 2, .m (.one (.t (.v (.int .u8 p2))))), (.tmp 3, .m (.one (.ptr 3 0))), (.tmp 7, .m (.one (.t (.v (.bool v1))))), (.tmp 25, .m (.one (.t (.v (.bool v6))))), (.cell 3 0, .c (.t (.sl (p0_0.map e57)))), (.cell 3 1, .c (.t (.v (.int .i64 p0_1)))), (.cell 3 2, .c (.t (.sl (p0_2.map e51)))), (.cell 3 3, .c (.t (.sl (p0_3.map e42)))), (.cell 3 4, .c (.t (.v (.int .u64 p0_4))))]) h (fun _ h => ?_) (fun v6 h => ?_)
  · obtain ⟨v4, hv4, h⟩ := bind_some h
    cases hc2 : !v4 with
    | true =>
      have h := of_true hc2 h
      refine aw_region (.cons (.plain rfl (c_loadBox (cs := [.t (.sl (p0_0.map e57)), .t (.v (.int .i64 p0_1)), .t (.sl (p0_2.map e51)), .t (.sl (p0_3.map e42)), .t (.v (.int .u64 p0_4))]) rfl rfl (by decide) Try.isAgg27 i27 rfl .tmp)) ⟨rfl, rfl, rfl, rfl, rfl, rfl, trivial⟩ rfl <| .cons (.plain rfl (c_call (ins := [.agg [.t (.sl (p0_0.map e57)), .t (.v (.int .i64 p0_1)), .t (.sl (p0_2.map e51)), .t (.sl (p0_3.map e42)), .t (.v (.int .u64 p0_4))]]) (caps := []) rfl rfl rfl (by decide) .clo (ref15_Few_calls _ _ _ _ _ _ hv4) (.cons .tmp .nil) rfl rfl)) ⟨rfl, trivial⟩ rfl <| .cons (.plain rfl (c_not rfl rfl (by decide) .tmp)) ⟨rfl, trivial⟩ rfl <| .cons (.plain rfl (c_move rfl rfl (by decide) .tmp)) ⟨rfl, trivial⟩ rfl <| .cons (.off (b' := true) rfl rfl rfl rfl (by decide)) ⟨(congrArg mB hc2), trivial⟩ rfl <| .cons (.off (b' := true) rfl rfl rfl rfl (by decide)) ⟨(congrArg mB hc2), trivial⟩ rfl <| .cons (.off (b' := true) rfl rfl rfl rfl (by decide)) ⟨(congrArg mB hc2), trivial⟩ rfl <| .cons (.off (b' := true) rfl rfl rfl rfl (by decide)) ⟨(congrArg mB hc2), trivial⟩ rfl <| .cons (.plain rfl (c_pick (b := true) rfl rfl (by decide) .tmp rfl (.const rfl))) ⟨(congrArg mB hc2), trivial⟩ rfl <| .nil) ?_
      obtain rfl := Option.some.inj h
      show Goes _ _
      exact (Goes.into [(3, 3)] ⟨rfl, rfl, .refl, .refl, .refl, .refl, .refl, .refl, .refl, .refl, .refl, .refl, trivial⟩)
    | false =>
      have h := of_false hc2 h
      obtain ⟨v5, hv5, h⟩ := bind_some h
      refine aw_region (.cons (.plain rfl (c_loadBox (cs := [.t (.sl (p0_0.map e57)), .t (.v (.int .i64 p0_1)), .t (.sl (p0_2.map e51)), .t (.sl (p0_3.map e42)), .t (.v (.int .u64 p0_4))]) rfl rfl (by decide) Try.isAgg27 i27 rfl .tmp)) ⟨rfl, rfl, rfl, rfl, rfl, rfl, trivial⟩ rfl <| .cons (.plain rfl (c_call (ins := [.agg [.t (.sl (p0_0.map e57)), .t (.v (.int .i64 p0_1)), .t (.sl (p0_2.map e51)), .t (.sl (p0_3.map e42)), .t (.v (.int .u64 p0_4))]]) (caps := []) rfl rfl rfl (by decide) .clo (ref15_Few_calls _ _ _ _ _ _ hv4) (.cons .tmp .nil) rfl rfl)) ⟨rfl, trivial⟩ rfl <| .cons (.plain rfl (c_not rfl rfl (by decide) .tmp)) ⟨rfl, trivial⟩ rfl <| .cons (.plain rfl (c_move rfl rfl (by decide) .tmp)) ⟨rfl, trivial⟩ rfl <| .cons (.on (t := 20) rfl rfl (c_loadBox (cs := [.t (.sl (p0_0.map e57)), .t (.v (.int .i64 p0_1)), .t (.sl (p0_2.map e51)), .t (.sl (p0_3.map e42)), .t (.v (.int .u64 p0_4))]) rfl rfl (by decide) Try.isAgg27 i27 rfl .tmp)) ⟨(congrArg mB hc2), rfl, rfl, rfl, rfl, rfl, rfl, trivial⟩ rfl <| .cons (.on (t := 20) rfl rfl (c_move rfl rfl (by decide) .tmp)) ⟨(congrArg mB hc2), rfl, trivial⟩ rfl <| .cons (.on (t := 20) rfl rfl (c_call (ins := [.agg [.t (.sl (p0_0.map e57)), .t (.v (.int .i64 p0_1)), .t (.sl (p0_2.map e51)), .t (.sl (p0_3.map e42)), .t (.v (.int .u64 p0_4))], .one (.t (.v (.int .i64 p1)))]) (caps := []) rfl rfl rfl (by decide) .clo (ref17_Thief_calls _ _ _ _ _ _ _ hv5) (.cons .tmp (.cons .tmp .nil)) rfl rfl)) ⟨(congrArg mB hc2), rfl, rfl, trivial⟩ rfl <| .cons (.on (t := 20) rfl rfl (c_not rfl rfl (by decide) .tmp)) ⟨(congrArg mB hc2), rfl, trivial⟩ rfl <| .cons (.plain rfl (c_pick (b := false) rfl rfl (by decide) .tmp rfl .tmp)) ⟨(congrArg mB hc2), rfl, trivial⟩ rfl <| .nil) ?_
      obtain rfl := Option.some.inj h
      show Goes _ _
      exact (Goes.into [(3, 3)] ⟨rfl, rfl, .refl, .refl, .refl, .refl, .refl, .refl, .refl, .refl, .refl, .refl, trivial⟩)
  · show AW _ _ _ _ _
    refine aw_cond .tmp ⟨rfl, trivial⟩ (fun hc3 => ?_) (fun hc3 => ?_)
    · have h := of_true hc3 h
      refine aw_seq ?_
      refine aw_region (.cons (.plain rfl (c_move rfl rfl (by decide) .tmp)) ⟨rfl, trivial⟩ rfl <| .cons (.plain rfl (c_assign rfl rfl (by decide) .tmp)) ⟨rfl, trivial⟩ rfl <| .nil) ?_
      show AW _ _ _ _ _
      refine aw_goes (σ' := [(.tmp 6, .m (.one (.t (.v (.bool v1)))))]) (Goes.into [] ⟨rfl, rfl, .refl, trivial⟩) ?_
      refine aw_ret ?_
      obtain rfl := Option.some.inj h
      exact ⟨.inr rfl, _, [], (.tmp rfl .nil), rfl, rfl, rfl, ⟨rfl, rfl, trivial⟩⟩
    · have h := of_false hc3 h
      refine aw_skip ?_
      show AW _ _ _ _ _
      refine aw_seq ?_
      obtain ⟨v7, hv7, h⟩ := bind_some h
      refine aw_region (.cons (.plain rfl (c_loadBox (cs := [.t (.sl (p0_0.map e57)), .t (.v (.int .i64 p0_1)), .t (.sl (p0_2.map e51)), .t (.sl (p0_3.map e42)), .t (.v (.int .u64 p0_4))]) rfl rfl (by decide) Try.isAgg27 i27 rfl .tmp)) ⟨rfl, rfl, rfl, rfl, rfl, rfl, trivial⟩ rfl <| .cons (.plain rfl (c_call (ins := [.agg [.t (.sl (p0_0.map e57)), .t (.v (.int .i64 p0_1)), .t (.sl (p0_2.map e51)), .t (.sl (p0_3.map e42)), .t (.v (.int .u64 p0_4))]]) (caps := []) rfl rfl rfl (by decide) .clo (law17_made_calls _ _ _ _ _ _ hv7) (.cons .tmp .nil) rfl rfl)) ⟨rfl, trivial⟩ rfl <| .cons (.plain rfl (c_alloc rfl rfl (by decide) i33 rfl rfl rfl)) trivial rfl <| .cons (.plain rfl (c_storeBox (cs0 := [.t (.v (.slice none 0 0)), .t (.v (.int .i64 0)), .t (.v (.slice none 0 0)), .t (.v (.slice none 0 0)), .t (.v (.int .u64 0))]) (cs := [.t (.sl (v7.1.map e57)), .t (.v (.int .i64 v7.2.1)), .t (.sl (v7.2.2.1.map e51)), .t (.sl (v7.2.2.2.1.map e42)), .t (.v (.int .u64 v7.2.2.2.2))]) rfl rfl i33 rfl rfl .tmp .tmp)) ⟨rfl, rfl, rfl, rfl, rfl, rfl, rfl, trivial⟩ rfl <| .nil) ?_
      show AW _ _ _ _ _
      refine aw_seq ?_
      obtain ⟨v8, hv8, h⟩ := bind_some h
      refine aw_region (.cons (.plain rfl (c_loadBox (cs := [.t (.sl (v7.1.map e57)), .t (.v (.int .i64 v7.2.1)), .t (.sl (v7.2.2.1.map e51)), .t (.sl (v7.2.2.2.1.map e42)), .t (.v (.int .u64 v7.2.2.2.2))]) rfl rfl (by decide) Try.isAgg33 i33 rfl .tmp)) ⟨rfl, rfl, rfl, rfl, rfl, rfl, trivial⟩ rfl <| .cons (.plain rfl (c_move rfl rfl (by decide) .tmp)) ⟨rfl, trivial⟩ rfl <| .cons (.plain rfl (c_call (ins := [.agg [.t (.sl (v7.1.map e57)), .t (.v (.int .i64 v7.2.1)), .t (.sl (v7.2.2.1.map e51)), .t (.sl (v7.2.2.2.1.map e42)), .t (.v (.int .u64 v7.2.2.2.2))], .one (.t (.v (.int .i64 p1))), .one (.t (.v (.int .i64 3)))]) (caps := []) rfl rfl rfl (by decide) .clo (steal_Steal_calls _ _ _ _ _ _ _ _ hv8) (.cons .tmp (.cons .tmp (.cons (.const rfl) .nil))) rfl rfl)) ⟨rfl, rfl, trivial⟩ rfl <| .cons (.plain rfl (c_move rfl rfl (by decide) .tmp)) ⟨rfl, trivial⟩ rfl <| .cons (.plain rfl (c_extract rfl rfl (by decide) .tmp rfl rfl)) ⟨rfl, trivial⟩ rfl <| .cons (.plain rfl (c_extract rfl rfl (by decide) .tmp rfl rfl)) ⟨rfl, trivial⟩ rfl <| .cons (.plain rfl (c_extract rfl rfl (by decide) .tmp rfl rfl)) ⟨rfl, trivial⟩ rfl <| .cons (.plain rfl (c_alloc rfl rfl (by decide) i33 rfl rfl rfl)) trivial rfl <| .cons (.plain rfl (c_storeBox (cs0 := [.t (.v (.slice none 0 0)), .t (.v (.int .i64 0)), .t (.v (.slice none 0 0)), .t (.v (.slice none 0 0)), .t (.v (.int .u64 0))]) (cs := [.t (.sl (v8.1.map e57)), .t (.v (.int .i64 v8.2.1)), .t (.sl (v8.2.2.1.map e51)), .t (.sl (v8.2.2.2.1.map e42)), .t (.v (.int .u64 v8.2.2.2.2.1))]) rfl rfl i33 rfl rfl .tmp .tmp)) ⟨rfl, rfl, rfl, rfl, rfl, rfl, rfl, trivial⟩ rfl <| .cons (.plain rfl (c_assign rfl rfl (by decide) .tmp)) ⟨rfl, trivial⟩ rfl <| .cons (.plain rfl (c_assign rfl rfl (by decide) .tmp)) ⟨rfl, trivial⟩ rfl <| .nil) ?_
      show AW _ _ _ _ _
      refine aw_seq ?_
      obtain ⟨v9, hv9, h⟩ := bind_some h
      refine aw_region (.cons (.plain rfl (c_loadBox (cs := [.t (.sl (v7.1.map e57)), .t (.v (.int .i64 v7.2.1)), .t (.sl (v7.2.2.1.map e51)), .t (.sl (v7.2.2.2.1.map e42)), .t (.v (.int .u64 v7.2.2.2.2))]) rfl rfl (by decide) Try.isAgg33 i33 rfl .tmp)) ⟨rfl, rfl, rfl, rfl, rfl, rfl, trivial⟩ rfl <| .cons (.plain rfl (c_move rfl rfl (by decide) .tmp)) ⟨rfl, trivial⟩ rfl <| .cons (.plain rfl (c_move rfl rfl (by decide) .tmp)) ⟨rfl, trivial⟩ rfl <| .cons (.plain rfl (c_rem (by decide) rfl rfl (by decide) .tmp (.const rfl))) ⟨rfl, trivial⟩ rfl <| .cons (.plain rfl (c_conv Try.underlying3 rfl rfl rfl (by decide) .tmp)) ⟨rfl, trivial⟩ rfl <| .cons (.plain rfl (c_call (ins := [.agg [.t (.sl (v7.1.map e57)), .t (.v (.int .i64 v7.2.1)), .t (.sl (v7.2.2.1.map e51)), .t (.sl (v7.2.2.2.1.map e42)), .t (.v (.int .u64 v7.2.2.2.2))], .one (.t (.v (.int .i64 p1))), .one (.t (.v (.int .i64 (wi64 (p2.tmod 4)))))]) (caps := []) rfl rfl rfl (by decide) .clo (steal_Steal_calls _ _ _ _ _ _ _ _ hv9) (.cons .tmp (.cons .tmp (.cons .tmp .nil))) rfl rfl)) ⟨rfl, rfl, rfl, trivial⟩ rfl <| .cons (.plain rfl (c_move rfl rfl (by decide) .tmp)) ⟨rfl, trivial⟩ rfl <| .cons (.plain rfl (c_extract rfl rfl (by decide) .tmp rfl rfl)) ⟨rfl, trivial⟩ rfl <| .cons (.plain rfl (c_extract rfl rfl (by decide) .tmp rfl rfl)) ⟨rfl, trivial⟩ rfl <| .cons (.plain rfl (c_extract rfl rfl (by decide) .tmp rfl rfl)) ⟨rfl, trivial⟩ rfl <| .cons (.plain rfl (c_alloc rfl rfl (by decide) i33 rfl rfl rfl)) trivial rfl <| .cons (.plain rfl (c_storeBox (cs0 := [.t (.v (.slice none 0 0)), .t (.v (.int .i64 0)), .t (.v (.slice none 0 0)), .t (.v (.slice none 0 0)), .t (.v (.int .u64 0))]) (cs := [.t (.sl (v9.1.map e57)), .t (.v (.int .i64 v9.2.1)), .t (.sl (v9.2.2.1.map e51)), .t (.sl (v9.2.2.2.1.map e42)), .t (.v (.int .u64 v9.2.2.2.2.1))]) rfl rfl i33 rfl rfl .tmp .tmp)) ⟨rfl, rfl, rfl, rfl, rfl, rfl, rfl, trivial⟩ rfl <| .cons (.plain rfl (c_assign rfl rfl (by decide) .tmp)) ⟨rfl, trivial⟩ rfl <| .cons (.plain rfl (c_assign rfl rfl (by decide) .tmp)) ⟨rfl, trivial⟩ rfl <| .nil) ?_
      show AW _ _ _ _ _
      refine aw_seq ?_
      obtain ⟨v10, hv10, h⟩ := bind_some h
      refine aw_region (.cons (.plain rfl (c_loadBox (cs := [.t (.sl (v7.1.map e57)), .t (.v (.int .i64 v7.2.1)), .t (.sl (v7.2.2.1.map e51)), .t (.sl (v7.2.2.2.1.map e42)), .t (.v (.int .u64 v7.2.2.2.2))]) rfl rfl (by decide) Try.isAgg33 i33 rfl .tmp)) ⟨rfl, rfl, rfl, rfl, rfl, rfl, trivial⟩ rfl <| .cons (.plain rfl (c_call (ins := [.agg [.t (.sl (v7.1.map e57)), .t (.v (.int .i64 v7.2.1)), .t (.sl (v7.2.2.1.map e51)), .t (.sl (v7.2.2.2.1.map e42)), .t (.v (.int .u64 v7.2.2.2.2))]]) (caps := []) rfl rfl rfl (by decide) .clo (runs_All_calls _ _ _ _ _ _ hv10) (.cons .tmp .nil) rfl rfl)) ⟨rfl, trivial⟩ rfl <| .cons (.plain rfl (k_len (i := Try.t3) (l := v10) (f := e3) (fun _ => rfl) (by decide) rfl rfl (by decide) Try.underlying42 (src_tree (f := e3) (fun _ => rfl) (by decide) .tmp))) ⟨rfl, trivial⟩ rfl <| .cons (.plain rfl (c_gtr rfl rfl (by decide) .tmp (.const rfl))) ⟨rfl, trivial⟩ rfl <| .cons (.plain rfl (c_assign rfl rfl (by decide) .tmp)) ⟨rfl, trivial⟩ rfl <| .nil) ?_
      show AW _ _ _ _ _
      refine aw_seq ?_
      refine aw_seq ?_
      refine aw_cut0 (fun v11 : Bool => [(.tmp 2, .m (.one (.t (.v (.int .u8 p2))))), (.tmp 7, .m (.one (.t (.v (.bool v1))))), (.tmp 8, .m (.one (.ptr 8 0))), (.tmp 12, .m (.one (.ptr 12 0))), (.tmp 13, .m (.one (.t (.v (.int .i64 v9.2.2.2.2.2.1))))), (.tmp 14, .m (.one (.t (.v (.int .i64 v9.2.2.2.2.2.2))))), (.tmp 68, .m (.one (.t (.v (.bool v11))))), (.cell 8 0, .c (.t (.sl (v7.1.map e57)))), (.cell 8 1, .c (.t (.v (.int .i64 v7.2.1)))), (.cell 8 2, .c (.t (.sl (v7.2.2.1.map e51)))), (.cell 8 3, .c (.t (.sl (v7.2.2.2.1.map e42)))), (.cell 8 4, .c (.t (.v (.int .u64 v7.2.2.2.2)))), (.cell 12 0, .c (.t (.sl (v9.1.map e57)))), (.cell 12 1, .c (.t (.v (.int .i64 v9.2.1)))), (.cell 12 2, .c (.t (.sl (v9.2.2.1.map e51)))), (.cell 12 3, .c (.t (.sl (v9.2.2.2.1.map e42)))), (.cell 12 4, .c (.t (.v (.int .u64 v9.2.2.2.2.1))))]) h (fun _ h => ?_) (fun v11 h => ?_)
      · cases hc7 : !((!decide (v8.2.2.2.2.2.1 = 0)) == (decide (0 < (v10.length : Int)))) with
        | true =>
          have h := of_true hc7 h
          refine aw_region (.cons (.plain rfl (c_move rfl rfl (by decide) .tmp)) ⟨rfl, trivial⟩ rfl <| .cons (.plain rfl (c_neq rfl rfl (by decide) .tmp (.const rfl))) ⟨rfl, trivial⟩ rfl <| .cons (.plain rfl (c_move rfl rfl (by decide) .tmp)) ⟨rfl, trivial⟩ rfl <| .cons (.plain rfl (c_neqB Try.underlying4 rfl rfl (by decide) .tmp .tmp)) ⟨rfl, rfl, trivial⟩ rfl <| .cons (.plain rfl (c_move rfl rfl (by decide) .tmp)) ⟨rfl, trivial⟩ rfl <| .cons (.off (b' := true) rfl rfl rfl rfl (by decide)) ⟨(congrArg mB hc7), trivial⟩ rfl <| .cons (.off (b' := true) rfl rfl rfl rfl (by decide)) ⟨(congrArg mB hc7), trivial⟩ rfl <| .cons (.off (b' := true) rfl rfl rfl rfl (by decide)) ⟨(congrArg mB hc7), trivial⟩ rfl <| .cons (.off (b' := true) rfl rfl rfl rfl (by decide)) ⟨(congrArg mB hc7), trivial⟩ rfl <| .cons (.off (b' := true) rfl rfl rfl rfl (by decide)) ⟨(congrArg mB hc7), trivial⟩ rfl <| .cons (.plain rfl (c_pick (b := true) rfl rfl (by decide) .tmp rfl (.const rfl))) ⟨(congrArg mB hc7), trivial⟩ rfl <| .cons (.plain rfl (c_move rfl rfl (by decide) .tmp)) ⟨rfl, trivial⟩ rfl <| .cons (.off (b' := true) rfl rfl rfl rfl (by decide)) ⟨rfl, trivial⟩ rfl <| .cons (.off (b' := true) rfl rfl rfl rfl (by decide)) ⟨rfl, trivial⟩ rfl <| .cons (.off (b' := true) rfl rfl rfl rfl (by decide)) ⟨rfl, trivial⟩ rfl <| .cons (.offU rfl rfl rfl (by decide)) ⟨rfl, trivial⟩ rfl <| .cons (.offU rfl rfl rfl (by decide)) ⟨rfl, trivial⟩ rfl <| .cons (.off (b' := true) rfl rfl rfl rfl (by decide)) ⟨rfl, trivial⟩ rfl <| .cons (.plain rfl (c_pick (b := true) rfl rfl (by decide) .tmp rfl (.const rfl))) ⟨rfl, trivial⟩ rfl <| .nil) ?_
          obtain rfl := Option.some.inj h
          show Goes _ _
          exact (Goes.into [(8, 8), (12, 12)] ⟨rfl, rfl, .refl, .refl, .refl, .refl, .refl, .refl, .refl, .refl, .refl, .refl, .refl, .refl, .refl, .refl, .refl, .refl, .refl, trivial⟩)
        | false =>
          have h := of_false hc7 h
          cases hc8 : !((decide (v8.2.2.2.2.2.1 = 0)) == (decide (v8.2.2.2.2.2.2 = (-1)))) with
          | true =>
            have h := of_true hc8 h
            refine aw_region (.cons (.plain rfl (c_move rfl rfl (by decide) .tmp)) ⟨rfl, trivial⟩ rfl <| .cons (.plain rfl (c_neq rfl rfl (by decide) .tmp (.const rfl))) ⟨rfl, trivial⟩ rfl <| .cons (.plain rfl (c_move rfl rfl (by decide) .tmp)) ⟨rfl, trivial⟩ rfl <| .cons (.plain rfl (c_neqB Try.underlying4 rfl rfl (by decide) .tmp .tmp)) ⟨rfl, rfl, trivial⟩ rfl <| .cons (.plain rfl (c_move rfl rfl (by decide) .tmp)) ⟨rfl, trivial⟩ rfl <| .cons (.on (t := 54) rfl rfl (c_move rfl rfl (by decide) .tmp)) ⟨(congrArg mB hc7), rfl, trivial⟩ rfl <| .cons (.on (t := 54) rfl rfl (c_eql rfl rfl (by decide) .tmp (.const rfl))) ⟨(congrArg mB hc7), rfl, trivial⟩ rfl <| .cons (.on (t := 54) rfl rfl (c_move rfl rfl (by decide) .tmp)) ⟨(congrArg mB hc7), rfl, trivial⟩ rfl <| .cons (.on (t := 54) rfl rfl (c_eql rfl rfl (by decide) .tmp (.const rfl))) ⟨(congrArg mB hc7), rfl, trivial⟩ rfl <| .cons (.on (t := 54) rfl rfl (c_neqB Try.underlying4 rfl rfl (by decide) .tmp .tmp)) ⟨(congrArg mB hc7), rfl, rfl, trivial⟩ rfl <| .cons (.plain rfl (c_pick (b := false) rfl rfl (by decide) .tmp rfl .tmp)) ⟨(congrArg mB hc7), rfl, trivial⟩ rfl <| .cons (.plain rfl (c_move rfl rfl (by decide) .tmp)) ⟨rfl, trivial⟩ rfl <| .cons (.off (b' := true) rfl rfl rfl rfl (by decide)) ⟨(congrArg mB hc8), trivial⟩ rfl <| .cons (.off (b' := true) rfl rfl rfl rfl (by decide)) ⟨(congrArg mB hc8), trivial⟩ rfl <| .cons (.off (b' := true) rfl rfl rfl rfl (by decide)) ⟨(congrArg mB hc8), trivial⟩ rfl <| .cons (.offU rfl rfl rfl (by decide)) ⟨rfl, trivial⟩ rfl <| .cons (.offU rfl rfl rfl (by decide)) ⟨rfl, trivial⟩ rfl <| .cons (.off (b' := true) rfl rfl rfl rfl (by decide)) ⟨(congrArg mB hc8), trivial⟩ rfl <| .cons (.plain rfl (c_pick (b := true) rfl rfl (by decide) .tmp rfl (.const rfl))) ⟨(congrArg mB hc8), trivial⟩ rfl <| .nil) ?_
            obtain rfl := Option.some.inj h
            show Goes _ _
            exact (Goes.into [(8, 8), (12, 12)] ⟨rfl, rfl, .refl, .refl, .refl, .refl, .refl, .refl, .refl, .refl, .refl, .refl, .refl, .refl, .refl, .refl, .refl, .refl, .refl, trivial⟩)
          | false =>
            have h := of_false hc8 h
            cases hc9 : !decide (v9.2.2.2.2.2.1 = 0) with
            | true =>
              have h := of_true hc9 h
              refine aw_region (.cons (.plain rfl (c_move rfl rfl (by decide) .tmp)) ⟨rfl, trivial⟩ rfl <| .cons (.plain rfl (c_neq rfl rfl (by decide) .tmp (.const rfl))) ⟨rfl, trivial⟩ rfl <| .cons (.plain rfl (c_move rfl rfl (by decide) .tmp)) ⟨rfl, trivial⟩ rfl <| .cons (.plain rfl (c_neqB Try.underlying4 rfl rfl (by decide) .tmp .tmp)) ⟨rfl, rfl, trivial⟩ rfl <| .cons (.plain rfl (c_move rfl rfl (by decide) .tmp)) ⟨rfl, trivial⟩ rfl <| .cons (.on (t := 54) rfl rfl (c_move rfl rfl (by decide) .tmp)) ⟨(congrArg mB hc7), rfl, trivial⟩ rfl <| .cons (.on (t := 54) rfl rfl (c_eql rfl rfl (by decide) .tmp (.const rfl))) ⟨(congrArg mB hc7), rfl, trivial⟩ rfl <| .cons (.on (t := 54) rfl rfl (c_move rfl rfl (by decide) .tmp)) ⟨(congrArg mB hc7), rfl, trivial⟩ rfl <| .cons (.on (t := 54) rfl rfl (c_eql rfl rfl (by decide) .tmp (.const rfl))) ⟨(congrArg mB hc7), rfl, trivial⟩ rfl <| .cons (.on (t := 54) rfl rfl (c_neqB Try.underlying4 rfl rfl (by decide) .tmp .tmp)) ⟨(congrArg mB hc7), rfl, rfl, trivial⟩ rfl <| .cons (.plain rfl (c_pick (b := false) rfl rfl (by decide) .tmp rfl .tmp)) ⟨(congrArg mB hc7), rfl, trivial⟩ rfl <| .cons (.plain rfl (c_move rfl rfl (by decide) .tmp)) ⟨rfl, trivial⟩ rfl <| .cons (.on (t := 61) rfl rfl (c_move rfl rfl (by decide) .tmp)) ⟨(congrArg mB hc8), rfl, trivial⟩ rfl <| .cons (.on (t := 61) rfl rfl (c_neq rfl rfl (by decide) .tmp (.const rfl))) ⟨(congrArg mB hc8), rfl, trivial⟩ rfl <| .cons (.on (t := 61) rfl rfl (c_move rfl rfl (by decide) .tmp)) ⟨(congrArg mB hc8), rfl, trivial⟩ rfl <| .cons (.on (t := 64) rfl rfl (c_move rfl rfl (by decide) .tmp)) ⟨(congrArg mB hc9), rfl, trivial⟩ rfl <| .cons (.on (t := 64) rfl rfl (c_eql rfl rfl (by decide) .tmp (.const rfl))) ⟨(congrArg mB hc9), rfl, trivial⟩ rfl <| .cons (.on (t := 61) rfl rfl (c_pick (b := true) rfl rfl (by decide) .tmp rfl .tmp)) ⟨(congrArg mB hc8), (congrArg mB hc9), rfl, trivial⟩ rfl <| .cons (.plain rfl (c_pick (b := false) rfl rfl (by decide) .tmp rfl .tmp)) ⟨(congrArg mB hc8), rfl, trivial⟩ rfl <| .nil) ?_
              obtain rfl := Option.some.inj h
              show Goes _ _
              exact (Goes.into [(8, 8), (12, 12)] ⟨rfl, rfl, .refl, .refl, .refl, .refl, .refl, .refl, .refl, .refl, .refl, .refl, .refl, .refl, .refl, .refl, .refl, .refl, .refl, trivial⟩)
            | false =>
              have h := of_false hc9 h
              refine aw_region (.cons (.plain rfl (c_move rfl rfl (by decide) .tmp)) ⟨rfl, trivial⟩ rfl <| .cons (.plain rfl (c_neq rfl rfl (by decide) .tmp (.const rfl))) ⟨rfl, trivial⟩ rfl <| .cons (.plain rfl (c_move rfl rfl (by decide) .tmp)) ⟨rfl, trivial⟩ rfl <| .cons (.plain rfl (c_neqB Try.underlying4 rfl rfl (by decide) .tmp .tmp)) ⟨rfl, rfl, trivial⟩ rfl <| .cons (.plain rfl (c_move rfl rfl (by decide) .tmp)) ⟨rfl, trivial⟩ rfl <| .cons (.on (t := 54) rfl rfl (c_move rfl rfl (by decide) .tmp)) ⟨(congrArg mB hc7), rfl, trivial⟩ rfl <| .cons (.on (t := 54) rfl rfl (c_eql rfl rfl (by decide) .tmp (.const rfl))) ⟨(congrArg mB hc7), rfl, trivial⟩ rfl <| .cons (.on (t := 54) rfl rfl (c_move rfl rfl (by decide) .tmp)) ⟨(congrArg mB hc7), rfl, trivial⟩ rfl <| .cons (.on (t := 54) rfl rfl (c_eql rfl rfl (by decide) .tmp (.const rfl))) ⟨(congrArg mB hc7), rfl, trivial⟩ rfl <| .cons (.on (t := 54) rfl rfl (c_neqB Try.underlying4 rfl rfl (by decide) .tmp .tmp)) ⟨(congrArg mB hc7), rfl, rfl, trivial⟩ rfl <| .cons (.plain rfl (c_pick (b := false) rfl rfl (by decide) .tmp rfl .tmp)) ⟨(congrArg mB hc7), rfl, trivial⟩ rfl <| .cons (.plain rfl (c_move rfl rfl (by decide) .tmp)) ⟨rfl, trivial⟩ rfl <| .cons (.on (t := 61) rfl rfl (c_move rfl rfl (by decide) .tmp)) ⟨(congrArg mB hc8), rfl, trivial⟩ rfl <| .cons (.on (t := 61) rfl rfl (c_neq rfl rfl (by decide) .tmp (.const rfl))) ⟨(congrArg mB hc8), rfl, trivial⟩ rfl <| .cons (.on (t := 61) rfl rfl (c_move rfl rfl (by decide) .tmp)) ⟨(congrArg mB hc8), rfl, trivial⟩ rfl <| .cons (.off (b' := false) rfl rfl rfl rfl (by decide)) ⟨(congrArg mB hc9), trivial⟩ rfl <| .cons (.off (b' := false) rfl rfl rfl rfl (by decide)) ⟨(congrArg mB hc9), trivial⟩ rfl <| .cons (.on (t := 61) rfl rfl (c_pick (b := false) rfl rfl (by decide) .tmp rfl (.const rfl))) ⟨(congrArg mB hc8), (congrArg mB hc9), trivial⟩ rfl <| .cons (.plain rfl (c_pick (b := false) rfl rfl (by decide) .tmp rfl .tmp)) ⟨(congrArg mB hc8), rfl, trivial⟩ rfl <| .nil) ?_
              obtain rfl := Option.some.inj h
              show Goes _ _
              exact (Goes.into [(8, 8), (12, 12)] ⟨rfl, rfl, .refl, .refl, .refl, .refl, .refl, .refl, .refl, .refl, .refl, .refl, .refl, .refl, .refl, .refl, .refl, .refl, .refl, trivial⟩)
      · show AW _ _ _ _ _
        refine aw_cond .tmp ⟨rfl, trivial⟩ (fun hc10 => ?_) (fun hc10 => ?_)
        · have h := of_true hc10 h
          refine aw_seq ?_
          refine aw_region (.cons (.plain rfl (c_assign rfl rfl (by decide) (.const rfl))) trivial rfl <| .nil) ?_
          show AW _ _ _ _ _
          refine aw_goes (σ' := [(.tmp 6, .m (.one (.t (.v (.bool false)))))]) (Goes.into [] ⟨rfl, rfl, .refl, trivial⟩) ?_
          refine aw_ret ?_
          obtain rfl := Option.some.inj h
          exact ⟨.inr rfl, _, [], (.tmp rfl .nil), rfl, rfl, rfl, ⟨rfl, rfl, trivial⟩⟩
        · have h := of_false hc10 h
          refine aw_skip ?_
          show AW _ _ _ _ _
          refine aw_seq ?_
          refine aw_seq ?_
          refine aw_region (.cons (.plain rfl (c_move rfl rfl (by decide) .tmp)) ⟨rfl, trivial⟩ rfl <| .cons (.plain rfl (c_eql rfl rfl (by decide) .tmp (.const rfl))) ⟨rfl, trivial⟩ rfl <| .nil) ?_
          show AW _ _ _ _ _
          refine aw_cond .tmp ⟨rfl, trivial⟩ (fun hc11 => ?_) (fun hc11 => ?_)
          · have h := of_true hc11 h
            refine aw_seq ?_
            refine aw_cut0 (fun v18 : Bool => [(.tmp 6, .m (.one (.t (.v (.bool v18)))))]) h (fun _ h => ?_) (fun v18 h => ?_)
            · rcases Bool.eq_false_or_eq_true v1 with hc14 | hc14
              · have h := of_true hc14 h
                cases hc15 : decide (v9.2.2.2.2.2.2 = (-1)) with
                | true =>
                  have h := of_true hc15 h
                  obtain ⟨v15, hv15, h⟩ := bind_some h
                  obtain ⟨v16, hv16, h⟩ := bind_some h
                  obtain ⟨v17, hv17, h⟩ := bind_some h
                  refine aw_region_draw mixed (.cons (.plain rfl (c_move rfl rfl (by decide) .tmp)) ⟨rfl, trivial⟩ rfl <| .cons (.plain rfl (c_move rfl rfl (by decide) .tmp)) ⟨rfl, trivial⟩ rfl <| .cons (.on (t := 72) rfl rfl (c_move rfl rfl (by decide) .tmp)) ⟨(congrArg mB hc14), rfl, trivial⟩ rfl <| .cons (.on (t := 72) rfl rfl (c_eql rfl rfl (by decide) .tmp (.const rfl))) ⟨(congrArg mB hc14), rfl, trivial⟩ rfl <| .cons (.plain rfl (c_pick (b := true) rfl rfl (by decide) .tmp rfl .tmp)) ⟨(congrArg mB hc14), rfl, trivial⟩ rfl <| .cons (.plain rfl (c_move rfl rfl (by decide) .tmp)) ⟨rfl, trivial⟩ rfl <| .cons (.on (t := 76) rfl rfl (c_loadBox (cs := [.t (.sl (v9.1.map e57)), .t (.v (.int .i64 v9.2.1)), .t (.sl (v9.2.2.1.map e51)), .t (.sl (v9.2.2.2.1.map e42)), .t (.v (.int .u64 v9.2.2.2.2.1))]) rfl rfl (by decide) Try.isAgg33 i33 rfl .tmp)) ⟨(congrArg mB hc15), rfl, rfl, rfl, rfl, rfl, rfl, trivial⟩ rfl <| .cons (.on (t := 76) rfl rfl (c_call (ins := [.agg [.t (.sl (v9.1.map e57)), .t (.v (.int .i64 v9.2.1)), .t (.sl (v9.2.2.1.map e51)), .t (.sl (v9.2.2.2.1.map e42)), .t (.v (.int .u64 v9.2.2.2.2.1))]]) (caps := []) rfl rfl rfl (by decide) .clo (runs_All_calls _ _ _ _ _ _ hv15) (.cons .tmp .nil) rfl rfl)) ⟨(congrArg mB hc15), rfl, trivial⟩ rfl <| .cons (.on (t := 76) rfl rfl (c_loadBox (cs := [.t (.sl (v7.1.map e57)), .t (.v (.int .i64 v7.2.1)), .t (.sl (v7.2.2.1.map e51)), .t (.sl (v7.2.2.2.1.map e42)), .t (.v (.int .u64 v7.2.2.2.2))]) rfl rfl (by decide) Try.isAgg33 i33 rfl .tmp)) ⟨(congrArg mB hc15), rfl, rfl, rfl, rfl, rfl, rfl, trivial⟩ rfl <| .cons (.on (t := 76) rfl rfl (c_call (ins := [.agg [.t (.sl (v7.1.map e57)), .t (.v (.int .i64 v7.2.1)), .t (.sl (v7.2.2.1.map e51)), .t (.sl (v7.2.2.2.1.map e42)), .t (.v (.int .u64 v7.2.2.2.2))]]) (caps := []) rfl rfl rfl (by decide) .clo (runs_All_calls _ _ _ _ _ _ hv16) (.cons .tmp .nil) rfl rfl)) ⟨(congrArg mB hc15), rfl, trivial⟩ rfl <| .cons (.on (t := 76) rfl rfl (c_call (ins := [.one (.t (.sl (v15.map e3))), .one (.t (.sl (v16.map e3)))]) (caps := []) rfl rfl rfl (by decide) .clo (ref01_Ints_calls _ _ _ hv17) (.cons .tmp (.cons .tmp .nil)) rfl rfl)) ⟨(congrArg mB hc15), rfl, rfl, trivial⟩ rfl <| .cons (.plain rfl (c_pick (b := true) rfl rfl (by decide) .tmp rfl .tmp)) ⟨(congrArg mB hc15), rfl, trivial⟩ rfl <| .cons (.plain rfl (c_assign rfl rfl (by decide) .tmp)) ⟨rfl, trivial⟩ rfl <| .nil) rfl rfl ?_
                  obtain rfl := Option.some.inj h
                  show Goes _ _
                  exact (Goes.into [] ⟨rfl, rfl, .refl, trivial⟩)
                | false =>
                  have h := of_false hc15 h
                  refine aw_region_draw mixed (.cons (.plain rfl (c_move rfl rfl (by decide) .tmp)) ⟨rfl, trivial⟩ rfl <| .cons (.plain rfl (c_move rfl rfl (by decide) .tmp)) ⟨rfl, trivial⟩ rfl <| .cons (.on (t := 72) rfl rfl (c_move rfl rfl (by decide) .tmp)) ⟨(congrArg mB hc14), rfl, trivial⟩ rfl <| .cons (.on (t := 72) rfl rfl (c_eql rfl rfl (by decide) .tmp (.const rfl))) ⟨(congrArg mB hc14), rfl, trivial⟩ rfl <| .cons (.plain rfl (c_pick (b := true) rfl rfl (by decide) .tmp rfl .tmp)) ⟨(congrArg mB hc14), rfl, trivial⟩ rfl <| .cons (.plain rfl (c_move rfl rfl (by decide) .tmp)) ⟨rfl, trivial⟩ rfl <| .cons (.off (b' := false) rfl rfl rfl rfl (by decide)) ⟨(congrArg mB hc15), trivial⟩ rfl <| .cons (.off (b' := false) rfl rfl rfl rfl (by decide)) ⟨(congrArg mB hc15), trivial⟩ rfl <| .cons (.off (b' := false) rfl rfl rfl rfl (by decide)) ⟨(congrArg mB hc15), trivial⟩ rfl <| .cons (.off (b' := false) rfl rfl rfl rfl (by decide)) ⟨(congrArg mB hc15), trivial⟩ rfl <| .cons (.off (b' := false) rfl rfl rfl rfl (by decide)) ⟨(congrArg mB hc15), trivial⟩ rfl <| .cons (.plain rfl (c_pick (b := false) rfl rfl (by decide) .tmp rfl (.const rfl))) ⟨(congrArg mB hc15), trivial⟩ rfl <| .cons (.plain rfl (c_assign rfl rfl (by decide) .tmp)) ⟨rfl, trivial⟩ rfl <| .nil) rfl rfl ?_
                  obtain rfl := Option.some.inj h
                  show Goes _ _
                  exact (Goes.into [] ⟨rfl, rfl, .refl, trivial⟩)
              · have h := of_false hc14 h
                refine aw_region_draw mixed (.cons (.plain rfl (c_move rfl rfl (by decide) .tmp)) ⟨rfl, trivial⟩ rfl <| .cons (.plain rfl (c_move rfl rfl (by decide) .tmp)) ⟨rfl, trivial⟩ rfl <| .cons (.off (b' := false) rfl rfl rfl rfl (by decide)) ⟨(congrArg mB hc14), trivial⟩ rfl <| .cons (.off (b' := false) rfl rfl rfl rfl (by decide)) ⟨(congrArg mB hc14), trivial⟩ rfl <| .cons (.plain rfl (c_pick (b := false) rfl rfl (by decide) .tmp rfl (.const rfl))) ⟨(congrArg mB hc14), trivial⟩ rfl <| .cons (.plain rfl (c_move rfl rfl (by decide) .tmp)) ⟨rfl, trivial⟩ rfl <| .cons (.off (b' := false) rfl rfl rfl rfl (by decide)) ⟨rfl, trivial⟩ rfl <| .cons (.off (b' := false) rfl rfl rfl rfl (by decide)) ⟨rfl, trivial⟩ rfl <| .cons (.off (b' := false) rfl rfl rfl rfl (by decide)) ⟨rfl, trivial⟩ rfl <| .cons (.off (b' := false) rfl rfl rfl rfl (by decide)) ⟨rfl, trivial⟩ rfl <| .cons (.off (b' := false) rfl rfl rfl rfl (by decide)) ⟨rfl, trivial⟩ rfl <| .cons (.plain rfl (c_pick (b := false) rfl rfl (by decide) .tmp rfl (.const rfl))) ⟨rfl, trivial⟩ rfl <| .cons (.plain rfl (c_assign rfl rfl (by decide) .tmp)) ⟨rfl, trivial⟩ rfl <| .nil) rfl rfl ?_
                obtain rfl := Option.some.inj h
                show Goes _ _
                exact (Goes.into [] ⟨rfl, rfl, .refl, trivial⟩)
            · show AW _ _ _ _ _
              refine aw_goes (σ' := [(.tmp 6, .m (.one (.t (.v (.bool v18)))))]) (Goes.into [] ⟨rfl, rfl, .refl, trivial⟩) ?_
              refine aw_ret ?_
              obtain rfl := Option.some.inj h
              exact ⟨.inr rfl, _, [], (.tmp rfl .nil), rfl, rfl, rfl, ⟨rfl, rfl, trivial⟩⟩
          · have h := of_false hc11 h
            refine aw_skip ?_
            show AW _ _ _ _ _
            refine aw_seq ?_
            refine aw_cut0 (fun v29 : Bool => [(.tmp 6, .m (.one (.t (.v (.bool v29)))))]) h (fun _ h => ?_) (fun v29 h => ?_)
            · rcases Bool.eq_false_or_eq_true v1 with hc20 | hc20
              · have h := of_true hc20 h
                cases hc21 : decide (1 ≤ v9.2.2.2.2.2.2) with
                | true =>
                  have h := of_true hc21 h
                  cases hc22 : decide (v9.2.2.2.2.2.2 ≤ wi64 (p2.tmod 4)) with
                  | true =>
                    have h := of_true hc22 h
                    obtain ⟨v24, hv24, h⟩ := bind_some h
                    rcases Bool.eq_false_or_eq_true v24 with hc23 | hc23
                    · have h := of_true hc23 h
                      obtain ⟨v25, hv25, h⟩ := bind_some h
                      obtain ⟨v26, hv26, h⟩ := bind_some h
                      obtain ⟨v27, hv27, h⟩ := bind_some h
                      obtain ⟨v28, hv28, h⟩ := bind_some h
                      refine aw_region_draw mixed (.cons (.plain rfl (c_move rfl rfl (by decide) .tmp)) ⟨rfl, trivial⟩ rfl <| .cons (.plain rfl (c_move rfl rfl (by decide) .tmp)) ⟨rfl, trivial⟩ rfl <| .cons (.on (t := 84) rfl rfl (c_move rfl rfl (by decide) .tmp)) ⟨(congrArg mB hc20), rfl, trivial⟩ rfl <| .cons (.on (t := 84) rfl rfl (c_geq rfl rfl (by decide) .tmp (.const rfl))) ⟨(congrArg mB hc20), rfl, trivial⟩ rfl <| .cons (.plain rfl (c_pick (b := true) rfl rfl (by decide) .tmp rfl .tmp)) ⟨(congrArg mB hc20), rfl, trivial⟩ rfl <| .cons (.plain rfl (c_move rfl rfl (by decide) .tmp)) ⟨rfl, trivial⟩ rfl <| .cons (.on (t := 88) rfl rfl (c_move rfl rfl (by decide) .tmp)) ⟨(congrArg mB hc21), rfl, trivial⟩ rfl <| .cons (.on (t := 88) rfl rfl (c_move rfl rfl (by decide) .tmp)) ⟨(congrArg mB hc21), rfl, trivial⟩ rfl <| .cons (.on (t := 88) rfl rfl (c_rem (by decide) rfl rfl (by decide) .tmp (.const rfl))) ⟨(congrArg mB hc21), rfl, trivial⟩ rfl <| .cons (.on (t := 88) rfl rfl (c_conv Try.underlying3 rfl rfl rfl (by decide) .tmp)) ⟨(congrArg mB hc21), rfl, trivial⟩ rfl <| .cons (.on (t := 88) rfl rfl (c_leq rfl rfl (by decide) .tmp .tmp)) ⟨(congrArg mB hc21), rfl, rfl, trivial⟩ rfl <| .cons (.plain rfl (c_pick (b := true) rfl rfl (by decide) .tmp rfl .tmp)) ⟨(congrArg mB hc21), rfl, trivial⟩ rfl <| .cons (.plain rfl (c_move rfl rfl (by decide) .tmp)) ⟨rfl, trivial⟩ rfl <| .cons (.on (t := 95) rfl rfl (c_loadBox (cs := [.t (.sl (v9.1.map e57)), .t (.v (.int .i64 v9.2.1)), .t (.sl (v9.2.2.1.map e51)), .t (.sl (v9.2.2.2.1.map e42)), .t (.v (.int .u64 v9.2.2.2.2.1))]) rfl rfl (by decide) Try.isAgg33 i33 rfl .tmp)) ⟨(congrArg mB hc22), rfl, rfl, rfl, rfl, rfl, rfl, trivial⟩ rfl <| .cons (.on (t := 95) rfl rfl (c_call (ins := [.agg [.t (.sl (v9.1.map e57)), .t (.v (.int .i64 v9.2.1)), .t (.sl (v9.2.2.1.map e51)), .t (.sl (v9.2.2.2.1.map e42)), .t (.v (.int .u64 v9.2.2.2.2.1))]]) (caps := []) rfl rfl rfl (by decide) .clo (runs_May_calls _ _ _ _ _ _ hv24) (.cons .tmp .nil) rfl rfl)) ⟨(congrArg mB hc22), rfl, trivial⟩ rfl <| .cons (.plain rfl (c_pick (b := true) rfl rfl (by decide) .tmp rfl .tmp)) ⟨(congrArg mB hc22), rfl, trivial⟩ rfl <| .cons (.plain rfl (c_move rfl rfl (by decide) .tmp)) ⟨rfl, trivial⟩ rfl <| .cons (.on (t := 99) rfl rfl (c_move rfl rfl (by decide) .tmp)) ⟨(congrArg mB hc23), rfl, trivial⟩ rfl <| .cons (.on (t := 99) rfl rfl (c_buildSlice (sz := 1) (es := [v9.2.2.2.2.2.1].map e3) rfl rfl (by decide) Try.underlying42 i3 rfl rfl rfl rfl (by decide) (.c1 .tmp .nil) rfl (emb_len (f := e3) (n := 1) (fun _ => rfl) _) (by decide))) ⟨(congrArg mB hc23), rfl, trivial⟩ rfl <| .cons (.on (t := 99) rfl rfl (c_loadBox (cs := [.t (.sl (v9.1.map e57)), .t (.v (.int .i64 v9.2.1)), .t (.sl (v9.2.2.1.map e51)), .t (.sl (v9.2.2.2.1.map e42)), .t (.v (.int .u64 v9.2.2.2.2.1))]) rfl rfl (by decide) Try.isAgg33 i33 rfl .tmp)) ⟨(congrArg mB hc23), rfl, rfl, rfl, rfl, rfl, rfl, trivial⟩ rfl <| .cons (.on (t := 99) rfl rfl (c_call (ins := [.agg [.t (.sl (v9.1.map e57)), .t (.v (.int .i64 v9.2.1)), .t (.sl (v9.2.2.1.map e51)), .t (.sl (v9.2.2.2.1.map e42)), .t (.v (.int .u64 v9.2.2.2.2.1))]]) (caps := []) rfl rfl rfl (by decide) .clo (runs_All_calls _ _ _ _ _ _ hv25) (.cons .tmp .nil) rfl rfl)) ⟨(congrArg mB hc23), rfl, trivial⟩ rfl <| .cons (.on (t := 99) rfl rfl (.frozen (by simp [killed, Loc.names, Val.names]) (k_appendRow (f := e3) hv26 (by decide) (by decide) rfl rfl (by decide) Try.underlying42 i3 rfl rfl rfl rfl (by decide) .tmp (src_tree (f := e3) (fun _ => rfl) (by decide) .tmp)))) ⟨(congrArg mB hc23), rfl, rfl, rfl, trivial⟩ rfl <| .cons (.on (t := 99) rfl rfl (c_loadBox (cs := [.t (.sl (v7.1.map e57)), .t (.v (.int .i64 v7.2.1)), .t (.sl (v7.2.2.1.map e51)), .t (.sl (v7.2.2.2.1.map e42)), .t (.v (.int .u64 v7.2.2.2.2))]) rfl rfl (by decide) Try.isAgg33 i33 rfl .tmp)) ⟨(congrArg mB hc23), rfl, rfl, rfl, rfl, rfl, rfl, trivial⟩ rfl <| .cons (.on (t := 99) rfl rfl (c_call (ins := [.agg [.t (.sl (v7.1.map e57)), .t (.v (.int .i64 v7.2.1)), .t (.sl (v7.2.2.1.map e51)), .t (.sl (v7.2.2.2.1.map e42)), .t (.v (.int .u64 v7.2.2.2.2))]]) (caps := []) rfl rfl rfl (by decide) .clo (runs_All_calls _ _ _ _ _ _ hv27) (.cons .tmp .nil) rfl rfl)) ⟨(congrArg mB hc23), rfl, trivial⟩ rfl <| .cons (.on (t := 99) rfl rfl (c_call (ins := [.one (.t (.sl (v26.map e3))), .one (.t (.sl (v27.map e3)))]) (caps := []) rfl rfl rfl (by decide) .clo (ref04_Bag_calls _ _ _ hv28) (.cons .tmp (.cons .tmp .nil)) rfl rfl)) ⟨(congrArg mB hc23), rfl, rfl, trivial⟩ rfl <| .cons (.plain rfl (c_pick (b := true) rfl rfl (by decide) .tmp rfl .tmp)) ⟨(congrArg mB hc23), rfl, trivial⟩ rfl <| .cons (.plain rfl (c_assign rfl rfl (by decide) .tmp)) ⟨rfl, trivial⟩ rfl <| .nil) rfl rfl ?_
                      obtain rfl := Option.some.inj h
                      show Goes _ _
                      exact (Goes.into [] ⟨rfl, rfl, .refl, trivial⟩)
                    · have h := of_false hc23 h
                      refine aw_region_draw mixed (.cons (.plain rfl (c_move rfl rfl (by decide) .tmp)) ⟨rfl, trivial⟩ rfl <| .cons (.plain rfl (c_move rfl rfl (by decide) .tmp)) ⟨rfl, trivial⟩ rfl <| .cons (.on (t := 84) rfl rfl (c_move rfl rfl (by decide) .tmp)) ⟨(congrArg mB hc20), rfl, trivial⟩ rfl <| .cons (.on (t := 84) rfl rfl (c_geq rfl rfl (by decide) .tmp (.const rfl))) ⟨(congrArg mB hc20), rfl, trivial⟩ rfl <| .cons (.plain rfl (c_pick (b := true) rfl rfl (by decide) .tmp rfl .tmp)) ⟨(congrArg mB hc20), rfl, trivial⟩ rfl <| .cons (.plain rfl (c_move rfl rfl (by decide) .tmp)) ⟨rfl, trivial⟩ rfl <| .cons (.on (t := 88) rfl rfl (c_move rfl rfl (by decide) .tmp)) ⟨(congrArg mB hc21), rfl, trivial⟩ rfl <| .cons (.on (t := 88) rfl rfl (c_move rfl rfl (by decide) .tmp)) ⟨(congrArg mB hc21), rfl, trivial⟩ rfl <| .cons (.on (t := 88) rfl rfl (c_rem (by decide) rfl rfl (by decide) .tmp (.const rfl))) ⟨(congrArg mB hc21), rfl, trivial⟩ rfl <| .cons (.on (t := 88) rfl rfl (c_conv Try.underlying3 rfl rfl rfl (by decide) .tmp)) ⟨(congrArg mB hc21), rfl, trivial⟩ rfl <| .cons (.on (t := 88) rfl rfl (c_leq rfl rfl (by decide) .tmp .tmp)) ⟨(congrArg mB hc21), rfl, rfl, trivial⟩ rfl <| .cons (.plain rfl (c_pick (b := true) rfl rfl (by decide) .tmp rfl .tmp)) ⟨(congrArg mB hc21), rfl, trivial⟩ rfl <| .cons (.plain rfl (c_move rfl rfl (by decide) .tmp)) ⟨rfl, trivial⟩ rfl <| .cons (.on (t := 95) rfl rfl (c_loadBox (cs := [.t (.sl (v9.1.map e57)), .t (.v (.int .i64 v9.2.1)), .t (.sl (v9.2.2.1.map e51)), .t (.sl (v9.2.2.2.1.map e42)), .t (.v (.int .u64 v9.2.2.2.2.1))]) rfl rfl (by decide) Try.isAgg33 i33 rfl .tmp)) ⟨(congrArg mB hc22), rfl, rfl, rfl, rfl, rfl, rfl, trivial⟩ rfl <| .cons (.on (t := 95) rfl rfl (c_call (ins := [.agg [.t (.sl (v9.1.map e57)), .t (.v (.int .i64 v9.2.1)), .t (.sl (v9.2.2.1.map e51)), .t (.sl (v9.2.2.2.1.map e42)), .t (.v (.int .u64 v9.2.2.2.2.1))]]) (caps := []) rfl rfl rfl (by decide) .clo (runs_May_calls _ _ _ _ _ _ hv24) (.cons .tmp .nil) rfl rfl)) ⟨(congrArg mB hc22), rfl, trivial⟩ rfl <| .cons (.plain rfl (c_pick (b := true) rfl rfl (by decide) .tmp rfl .tmp)) ⟨(congrArg mB hc22), rfl, trivial⟩ rfl <| .cons (.plain rfl (c_move rfl rfl (by decide) .tmp)) ⟨rfl, trivial⟩ rfl <| .cons (.off (b' := false) rfl rfl rfl rfl (by decide)) ⟨(congrArg mB hc23), trivial⟩ rfl <| .cons (.off (b' := false) rfl rfl rfl rfl (by decide)) ⟨(congrArg mB hc23), trivial⟩ rfl <| .cons (.off (b' := false) rfl rfl rfl rfl (by decide)) ⟨(congrArg mB hc23), trivial⟩ rfl <| .cons (.off (b' := false) rfl rfl rfl rfl (by decide)) ⟨(congrArg mB hc23), trivial⟩ rfl <| .cons (.off (b' := false) rfl rfl rfl rfl (by decide)) ⟨(congrArg mB hc23), trivial⟩ rfl <| .cons (.off (b' := false) rfl rfl rfl rfl (by decide)) ⟨(congrArg mB hc23), trivial⟩ rfl <| .cons (.off (b' := false) rfl rfl rfl rfl (by decide)) ⟨(congrArg mB hc23), trivial⟩ rfl <| .cons (.off (b' := false) rfl rfl rfl rfl (by decide)) ⟨(congrArg mB hc23), trivial⟩ rfl <| .cons (.plain rfl (c_pick (b := false) rfl rfl (by decide) .tmp rfl (.const rfl))) ⟨(congrArg mB hc23), trivial⟩ rfl <| .cons (.plain rfl (c_assign rfl rfl (by decide) .tmp)) ⟨rfl, trivial⟩ rfl <| .nil) rfl rfl ?_
                      obtain rfl := Option.some.inj h
                      show Goes _ _
                      exact (Goes.into [] ⟨rfl, rfl, .refl, trivial⟩)
                  | false =>
                    have h := of_false hc22 h
                    refine aw_region_draw mixed (.cons (.plain rfl (c_move rfl rfl (by decide) .tmp)) ⟨rfl, trivial⟩ rfl <| .cons (.plain rfl (c_move rfl rfl (by decide) .tmp)) ⟨rfl, trivial⟩ rfl <| .cons (.on (t := 84) rfl rfl (c_move rfl rfl (by decide) .tmp)) ⟨(congrArg mB hc20), rfl, trivial⟩ rfl <| .cons (.on (t := 84) rfl rfl (c_geq rfl rfl (by decide) .tmp (.const rfl))) ⟨(congrArg mB hc20), rfl, trivial⟩ rfl <| .cons (.plain rfl (c_pick (b := true) rfl rfl (by decide) .tmp rfl .tmp)) ⟨(congrArg mB hc20), rfl, trivial⟩ rfl <| .cons (.plain rfl (c_move rfl rfl (by decide) .tmp)) ⟨rfl, trivial⟩ rfl <| .cons (.on (t := 88) rfl rfl (c_move rfl rfl (by decide) .tmp)) ⟨(congrArg mB hc21), rfl, trivial⟩ rfl <| .cons (.on (t := 88) rfl rfl (c_move rfl rfl (by decide) .tmp)) ⟨(congrArg mB hc21), rfl, trivial⟩ rfl <| .cons (.on (t := 88) rfl rfl (c_rem (by decide) rfl rfl (by decide) .tmp (.const rfl))) ⟨(congrArg mB hc21), rfl, trivial⟩ rfl <| .cons (.on (t := 88) rfl rfl (c_conv Try.underlying3 rfl rfl rfl (by decide) .tmp)) ⟨(congrArg mB hc21), rfl, trivial⟩ rfl <| .cons (.on (t := 88) rfl rfl (c_leq rfl rfl (by decide) .tmp .tmp)) ⟨(congrArg mB hc21), rfl, rfl, trivial⟩ rfl <| .cons (.plain rfl (c_pick (b := true) rfl rfl (by decide) .tmp rfl .tmp)) ⟨(congrArg mB hc21), rfl, trivial⟩ rfl <| .cons (.plain rfl (c_move rfl rfl (by decide) .tmp)) ⟨rfl, trivial⟩ rfl <| .cons (.off (b' := false) rfl rfl rfl rfl (by decide)) ⟨(congrArg mB hc22), trivial⟩ rfl <| .cons (.off (b' := false) rfl rfl rfl rfl (by decide)) ⟨(congrArg mB hc22), trivial⟩ rfl <| .cons (.plain rfl (c_pick (b := false) rfl rfl (by decide) .tmp rfl (.const rfl))) ⟨(congrArg mB hc22), trivial⟩ rfl <| .cons (.plain rfl (c_move rfl rfl (by decide) .tmp)) ⟨rfl, trivial⟩ rfl <| .cons (.off (b' := false) rfl rfl rfl rfl (by decide)) ⟨rfl, trivial⟩ rfl <| .cons (.off (b' := false) rfl rfl rfl rfl (by decide)) ⟨rfl, trivial⟩ rfl <| .cons (.off (b' := false) rfl rfl rfl rfl (by decide)) ⟨rfl, trivial⟩ rfl <| .cons (.off (b' := false) rfl rfl rfl rfl (by decide)) ⟨rfl, trivial⟩ rfl <| .cons (.off (b' := false) rfl rfl rfl rfl (by decide)) ⟨rfl, trivial⟩ rfl <| .cons (.off (b' := false) rfl rfl rfl rfl (by decide)) ⟨rfl, trivial⟩ rfl <| .cons (.off (b' := false) rfl rfl rfl rfl (by decide)) ⟨rfl, trivial⟩ rfl <| .cons (.off (b' := false) rfl rfl rfl rfl (by decide)) ⟨rfl, trivial⟩ rfl <| .cons (.plain rfl (c_pick (b := false) rfl rfl (by decide) .tmp rfl (.const rfl))) ⟨rfl, trivial⟩ rfl <| .cons (.plain rfl (c_assign rfl rfl (by decide) .tmp)) ⟨rfl, trivial⟩ rfl <| .nil) rfl rfl ?_
                    obtain rfl := Option.some.inj h
                    show Goes _ _
                    exact (Goes.into [] ⟨rfl, rfl, .refl, trivial⟩)
                | false =>
                  have h := of_false hc21 h
                  refine aw_region_draw mixed (.cons (.plain rfl (c_move rfl rfl (by decide) .tmp)) ⟨rfl, trivial⟩ rfl <| .cons (.plain rfl (c_move rfl rfl (by decide) .tmp)) ⟨rfl, trivial⟩ rfl <| .cons (.on (t := 84) rfl rfl (c_move rfl rfl (by decide) .tmp)) ⟨(congrArg mB hc20), rfl, trivial⟩ rfl <| .cons (.on (t := 84) rfl rfl (c_geq rfl rfl (by decide) .tmp (.const rfl))) ⟨(congrArg mB hc20), rfl, trivial⟩ rfl <| .cons (.plain rfl (c_pick (b := true) rfl rfl (by decide) .tmp rfl .tmp)) ⟨(congrArg mB hc20), rfl, trivial⟩ rfl <| .cons (.plain rfl (c_move rfl rfl (by decide) .tmp)) ⟨rfl, trivial⟩ rfl <| .cons (.off (b' := false) rfl rfl rfl rfl (by decide)) ⟨(congrArg mB hc21), trivial⟩ rfl <| .cons (.off (b' := false) rfl rfl rfl rfl (by decide)) ⟨(congrArg mB hc21), trivial⟩ rfl <| .cons (.off (b' := false) rfl rfl rfl rfl (by decide)) ⟨(congrArg mB hc21), trivial⟩ rfl <| .cons (.off (b' := false) rfl rfl rfl rfl (by decide)) ⟨(congrArg mB hc21), trivial⟩ rfl <| .cons (.off (b' := false) rfl rfl rfl rfl (by decide)) ⟨(congrArg mB hc21), trivial⟩ rfl <| .cons (.plain rfl (c_pick (b := false) rfl rfl (by decide) .tmp rfl (.const rfl))) ⟨(congrArg mB hc21), trivial⟩ rfl <| .cons (.plain rfl (c_move rfl rfl (by decide) .tmp)) ⟨rfl, trivial⟩ rfl <| .cons (.off (b' := false) rfl rfl rfl rfl (by decide)) ⟨rfl, trivial⟩ rfl <| .cons (.off (b' := false) rfl rfl rfl rfl (by decide)) ⟨rfl, trivial⟩ rfl <| .cons (.plain rfl (c_pick (b := false) rfl rfl (by decide) .tmp rfl (.const rfl))) ⟨rfl, trivial⟩ rfl <| .cons (.plain rfl (c_move rfl rfl (by decide) .tmp)) ⟨rfl, trivial⟩ rfl <| .cons (.off (b' := false) rfl rfl rfl rfl (by decide)) ⟨rfl, trivial⟩ rfl <| .cons (.off (b' := false) rfl rfl rfl rfl (by decide)) ⟨rfl, trivial⟩ rfl <| .cons (.off (b' := false) rfl rfl rfl rfl (by decide)) ⟨rfl, trivial⟩ rfl <| .cons (.off (b' := false) rfl rfl rfl rfl (by decide)) ⟨rfl, trivial⟩ rfl <| .cons (.off (b' := false) rfl rfl rfl rfl (by decide)) ⟨rfl, trivial⟩ rfl <| .cons (.off (b' := false) rfl rfl rfl rfl (by decide)) ⟨rfl, trivial⟩ rfl <| .cons (.off (b' := false) rfl rfl rfl rfl (by decide)) ⟨rfl, trivial⟩ rfl <| .cons (.off (b' := false) rfl rfl rfl rfl (by decide)) ⟨rfl, trivial⟩ rfl <| .cons (.plain rfl (c_pick (b := false) rfl rfl (by decide) .tmp rfl (.const rfl))) ⟨rfl, trivial⟩ rfl <| .cons (.plain rfl (c_assign rfl rfl (by decide) .tmp)) ⟨rfl, trivial⟩ rfl <| .nil) rfl rfl ?_
                  obtain rfl := Option.some.inj h
                  show Goes _ _
                  exact (Goes.into [] ⟨rfl, rfl, .refl, trivial⟩)
              · have h := of_false hc20 h
                refine aw_region_draw mixed (.cons (.plain rfl (c_move rfl rfl (by decide) .tmp)) ⟨rfl, trivial⟩ rfl <| .cons (.plain rfl (c_move rfl rfl (by decide) .tmp)) ⟨rfl, trivial⟩ rfl <| .cons (.off (b' := false) rfl rfl rfl rfl (by decide)) ⟨(congrArg mB hc20), trivial⟩ rfl <| .cons (.off (b' := false) rfl rfl rfl rfl (by decide)) ⟨(congrArg mB hc20), trivial⟩ rfl <| .cons (.plain rfl (c_pick (b := false) rfl rfl (by decide) .tmp rfl (.const rfl))) ⟨(congrArg mB hc20), trivial⟩ rfl <| .cons (.plain rfl (c_move rfl rfl (by decide) .tmp)) ⟨rfl, trivial⟩ rfl <| .cons (.off (b' := false) rfl rfl rfl rfl (by decide)) ⟨rfl, trivial⟩ rfl <| .cons (.off (b' := false) rfl rfl rfl rfl (by decide)) ⟨rfl, trivial⟩ rfl <| .cons (.off (b' := false) rfl rfl rfl rfl (by decide)) ⟨rfl, trivial⟩ rfl <| .cons (.off (b' := false) rfl rfl rfl rfl (by decide)) ⟨rfl, trivial⟩ rfl <| .cons (.off (b' := false) rfl rfl rfl rfl (by decide)) ⟨rfl, trivial⟩ rfl <| .cons (.plain rfl (c_pick (b := false) rfl rfl (by decide) .tmp rfl (.const rfl))) ⟨rfl, trivial⟩ rfl <| .cons (.plain rfl (c_move rfl rfl (by decide) .tmp)) ⟨rfl, trivial⟩ rfl <| .cons (.off (b' := false) rfl rfl rfl rfl (by decide)) ⟨rfl, trivial⟩ rfl <| .cons (.off (b' := false) rfl rfl rfl rfl (by decide)) ⟨rfl, trivial⟩ rfl <| .cons (.plain rfl (c_pick (b := false) rfl rfl (by decide) .tmp rfl (.const rfl))) ⟨rfl, trivial⟩ rfl <| .cons (.plain rfl (c_move rfl rfl (by decide) .tmp)) ⟨rfl, trivial⟩ rfl <| .cons (.off (b' := false) rfl rfl rfl rfl (by decide)) ⟨rfl, trivial⟩ rfl <| .cons (.off (b' := false) rfl rfl rfl rfl (by decide)) ⟨rfl, trivial⟩ rfl <| .cons (.off (b' := false) rfl rfl rfl rfl (by decide)) ⟨rfl, trivial⟩ rfl <| .cons (.off (b' := false) rfl rfl rfl rfl (by decide)) ⟨rfl, trivial⟩ rfl <| .cons (.off (b' := false) rfl rfl rfl rfl (by decide)) ⟨rfl, trivial⟩ rfl <| .cons (.off (b' := false) rfl rfl rfl rfl (by decide)) ⟨rfl, trivial⟩ rfl <| .cons (.off (b' := false) rfl rfl rfl rfl (by decide)) ⟨rfl, trivial⟩ rfl <| .cons (.off (b' := false) rfl rfl rfl rfl (by decide)) ⟨rfl, trivial⟩ rfl <| .cons (.plain rfl (c_pick (b := false) rfl rfl (by decide) .tmp rfl (.const rfl))) ⟨rfl, trivial⟩ rfl <| .cons (.plain rfl (c_assign rfl rfl (by decide) .tmp)) ⟨rfl, trivial⟩ rfl <| .nil) rfl rfl ?_
                obtain rfl := Option.some.inj h
                show Goes _ _
                exact (Goes.into [] ⟨rfl, rfl, .refl, trivial⟩)
            · show AW _ _ _ _ _
              refine aw_goes (σ' := [(.tmp 6, .m (.one (.t (.v (.bool v29)))))]) (Goes.into [] ⟨rfl, rfl, .refl, trivial⟩) ?_
              refine aw_ret ?_
              obtain rfl := Option.some.inj h
              exact ⟨.inr rfl, _, [], (.tmp rfl .nil), rfl, rfl, rfl, ⟨rfl, rfl, trivial⟩⟩

end Go.PM
